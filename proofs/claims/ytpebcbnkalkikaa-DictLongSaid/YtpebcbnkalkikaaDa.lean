/- dict, chapter 7: few, cmp.Less, BinarySearch, Build, Words. -/
import Derived.Test.YtpebcbnkalkikaaTa
import Derived.Test.YtpebcbnkalkikaaFe
import Derived.Test.YtpebcbnkalkikaaTb
namespace Go.VS

def fewB (l : List (List UInt8)) : Bool := decide (l.length ≤ 100) && l.all fun s => decide (s.length ≤ 400)

theorem few_loop (l : List (List UInt8)) (hl : l.length ≤ 100) (d : Nat) : ∀ i : Nat, i + d = l.length →
    ∃ out j, den AP RPn lp6_0 { vars := [.sl .none 1 (strs l), .bool false, .int .i64 i], tmps := [], store := [] } = some (out, { vars := [.sl .none 1 (strs l), .bool false, .int .i64 j], tmps := [], store := [] }) ∧
      out = if (l.drop i).all (fun s => decide (s.length ≤ 400)) then .exit 0 else .ret := by
  induction d with
  | zero =>
    intro i hi
    have : i = l.length := by omega
    subst this
    refine ⟨_, l.length, ?_, rfl⟩
    rw [lp6_0, den_loop_]
    simp [bd6_0]
  | succ d ih =>
    intro i hi
    have hlt : i < l.length := by omega
    rw [lp6_0, den_loop_]
    by_cases h : l[i].length ≤ 400
    · obtain ⟨out, j, h1, h2⟩ := ih (i + 1) (by omega)
      refine ⟨out, j, ?_, ?_⟩
      · simp [bd6_0, hlt, show ¬ (400 < l[i].length) by omega]
        rw [wrap_i64 _ (by omega) (by omega)]
        exact h1
      · rw [h2, List.drop_eq_getElem_cons hlt, List.all_cons, decide_eq_true h, Bool.true_and]
    · refine ⟨.ret, i, ?_, ?_⟩
      · simp [bd6_0, hlt, show (400 < l[i].length) by omega]
      · rw [List.drop_eq_getElem_cons hlt, List.all_cons, decide_eq_false h, Bool.false_and]; rfl

@[simp] theorem few_run (l : List (List UInt8)) : denF AP RPn 6 [.sl .none 1 (strs l)] [] = some (.bool (fewB l), []) := by
  rw [denF_code (fn := af6) rfl]
  by_cases hl : l.length ≤ 100
  · obtain ⟨out, j, h1, h2⟩ := few_loop l hl l.length 0 (by omega)
    have hf : fewB l = l.all fun s => decide (s.length ≤ 400) := by simp only [fewB, hl, decide_true, Bool.true_and]
    rw [List.drop_zero, ← hf] at h2
    subst h2
    simp only [Int.natCast_zero] at h1
    cases h : fewB l with
    | true =>
      simp only [h, if_true] at h1
      simp [af6, show ¬ (100 < l.length) by omega, h1]
    | false =>
      simp only [h, Bool.false_eq_true, if_false] at h1
      simp [af6, show ¬ (100 < l.length) by omega, h1]
  · simp [af6, show (100 < l.length) by omega, fewB, hl]

@[simp] theorem isNaN_run (s : List UInt8) : denF AP RPn 39 [.str s] [] = some (.bool false, []) := by
  rw [denF_code (fn := af39) rfl]
  simp [af39]

@[simp] theorem isNaN_run' (s : List UInt8) : denF AP RPn 29 [.str s] [] = some (.bool false, []) := by
  rw [denF_code (fn := af29) rfl]
  simp [af29]

@[simp] theorem less_run (x y : List UInt8) : denF AP RPn 28 [.str x, .str y] [] = some (.bool (Op.bytesLess x y), []) := by
  rw [denF_code (fn := af28) rfl]
  simp [af28]

theorem bs_loop (w : List (List UInt8)) (s : List UInt8) (q : Nat) (hq : Place w s q) (hl : w.length ≤ 2147483648) (z y : AV) (d : Nat) : ∀ (i j : Nat) (h : AV), j - i = d → i ≤ q → q ≤ j → j ≤ w.length →
    ∃ h', den AP RPn lp15_0 { vars := [.sl .none 1 (strs w), .str s, z, y, .int .i64 w.length, .int .i64 i, .int .i64 j, h], tmps := [], store := [] } = some (.exit 0, { vars := [.sl .none 1 (strs w), .str s, z, y, .int .i64 w.length, .int .i64 q, .int .i64 q, h'], tmps := [], store := [] }) := by
  induction d using Nat.strongRecOn with
  | _ d ih =>
    intro i j h hd hi hj hjl
    rw [lp15_0, den_loop_]
    by_cases hlt : i < j
    · have hm : (i + j) / 2 < w.length := by omega
      have hx : w[(i + j) / 2]? = some w[(i + j) / 2] := List.getElem?_eq_getElem hm
      have e1 : IntKind.i64.wrap ((i : Int) + j) = (i : Int) + j := wrap_i64 _ (by omega) (by omega)
      have e2 : IntKind.u64.wrap ((i : Int) + j) = (i : Int) + j := wrap_u64 _ (by omega) (by omega)
      have e3 : ((i : Int) + j).fdiv (2 ^ min 1 IntKind.u64.bits) = (((i + j) / 2 : Nat) : Int) := by
        rw [show (2 : Int) ^ min 1 IntKind.u64.bits = 2 from rfl, Int.fdiv_eq_ediv_of_nonneg _ (by omega)]; omega
      have e4 : IntKind.i64.wrap (((i + j) / 2 : Nat) : Int) = (((i + j) / 2 : Nat) : Int) := wrap_i64 _ (by omega) (by omega)
      have e5 : IntKind.i64.wrap ((((i + j) / 2 : Nat) : Int) + 1) = (((i + j) / 2 + 1 : Nat) : Int) := wrap_i64 _ (by omega) (by omega)
      cases hb : Op.bytesLess w[(i + j) / 2] s with
      | true =>
        have : (i + j) / 2 < q := by
          rcases Nat.lt_or_ge ((i + j) / 2) q with h1 | h1
          · exact h1
          · rw [hq.not _ _ h1 hx] at hb; simp at hb
        obtain ⟨h', h6⟩ := ih (j - ((i + j) / 2 + 1)) (by omega) ((i + j) / 2 + 1) j (.int .i64 ((i + j) / 2 : Nat)) rfl (by omega) hj hjl
        refine ⟨h', ?_⟩
        rw [← h6, lp15_0]
        generalize hk : (i + j) / 2 = m at *
        simp [bd15_0, hlt, e1, e2, e3, e4, hm, hb]
        simp at e5
        rw [e5]
      | false =>
        have : q ≤ (i + j) / 2 := by
          rcases Nat.lt_or_ge ((i + j) / 2) q with h1 | h1
          · rw [hq.less _ _ h1 hx] at hb; simp at hb
          · exact h1
        obtain ⟨h', h6⟩ := ih ((i + j) / 2 - i) (by omega) i ((i + j) / 2) (.int .i64 ((i + j) / 2 : Nat)) rfl hi this (by omega)
        refine ⟨h', ?_⟩
        rw [← h6, lp15_0]
        generalize hk : (i + j) / 2 = m at *
        simp [bd15_0, hlt, e1, e2, e3, e4, hm, hb]
    · have h1 : i = q := by omega
      have h2 : j = q := by omega
      subst h1
      subst h2
      exact ⟨h, by simp [bd15_0]⟩

theorem bs_run (w : List (List UInt8)) (s : List UInt8) (q : Nat) (hq : Place w s q) (hs : w[q]? = some s) (hl : w.length ≤ 2147483648) :
    denF AP RPn 15 [.sl .none 1 (strs w), .str s] [] = some (.tup [.int .i64 q, .bool true], []) := by
  obtain ⟨h', h1⟩ := bs_loop w s q hq hl (.int .i64 0) (.bool false) (w.length - 0) 0 w.length .undef rfl (by omega) hq.le (Nat.le_refl _)
  simp at h1
  obtain ⟨hql, hw⟩ := List.getElem?_eq_some_iff.1 hs
  rw [denF_code (fn := af15) rfl]
  simp [af15, h1, hql, hw]
end Go.VS
/- dict.Build, Words. -/
namespace Go.VS

@[simp] theorem u64s_nil' : u64s [] = [] := rfl
@[simp] theorem strs_nil' : strs [] = [] := rfl
@[simp] theorem bools_nil' : bools [] = [] := rfl

theorem build_loop (l w : List (List UInt8)) (hw : w.length ≤ 2147483648) (hl : l.length ≤ 1000000) (hp : ∀ s ∈ l, Place w s (idx w s) ∧ w[idx w s]? = some s) (a b : AV) (d : Nat) : ∀ (k : Nat) (at_ : List Nat) (s q f : AV), k + d = l.length → at_.length = k →
    ∃ s' q' f', den AP RPn lp7_0 { vars := [.sl .none 1 (strs l), a, b, .sl (.own false) 1 (strs w), .sl (.own false) 1 (u64s at_), s, q, f, .int .i64 k, .int .i64 l.length, .sl .none 1 (strs l)], tmps := [], store := [] } =
      some (.exit 0, { vars := [.sl .none 1 (strs l), a, b, .sl (.own false) 1 (strs w), .sl (.own false) 1 (u64s (at_ ++ (l.drop k).map (idx w))), s', q', f', .int .i64 l.length, .int .i64 l.length, .sl .none 1 (strs l)], tmps := [], store := [] }) := by
  induction d with
  | zero =>
    intro k at_ s q f hk ha
    have : k = l.length := by omega
    subst this
    refine ⟨s, q, f, ?_⟩
    rw [lp7_0, den_loop_]
    simp [bd7_0]
  | succ d ih =>
    intro k at_ s q f hk ha
    have hlt : k < l.length := by omega
    obtain ⟨h1, h2⟩ := hp l[k] (List.getElem_mem hlt)
    obtain ⟨s', q', f', h3⟩ := ih (k + 1) (at_ ++ [idx w l[k]]) (.str l[k]) (.int .i64 (idx w l[k])) (.bool true) (by omega) (by simp [ha])
    refine ⟨s', q', f', ?_⟩
    have e0 : at_ ++ (l.drop k).map (idx w) = (at_ ++ [idx w l[k]]) ++ (l.drop (k + 1)).map (idx w) := by rw [List.drop_eq_getElem_cons hlt, List.map_cons, List.append_assoc, List.singleton_append]
    rw [e0, ← h3]
    have hq := h1.le
    have e1 : IntKind.i64.wrap ((k : Int) + 1) = (k : Int) + 1 := wrap_i64 _ (by omega) (by omega)
    have e2 : IntKind.u64.wrap (idx w l[k] : Int) = (idx w l[k] : Int) := wrap_u64 _ (by omega) (by omega)
    have e3 : at_.length + 1 ≤ lim := by unfold lim; omega
    rw [lp7_0, den_loop_]
    simp [bd7_0, hlt, bs_run w l[k] _ h1 h2 hw, e1, e2, e3]

theorem values_run (l : List (List UInt8)) : denF AP RPn 14 [.sl .none 1 (strs l)] [] = some (.seq 27 1 (strs l), []) := by
  rw [denF_code (fn := af14) rfl]
  simp [af14]

theorem sorted_run (l : List (List UInt8)) (hl : l.length ≤ lim) : denF AP RPn 13 [.seq 27 1 (strs l)] [] = some (.sl (.own true) 1 (strs (sortS l)), []) := by
  rw [denF_prim (p := pSortedS 27) rfl]
  simp only [pSortedS, isStrs_strs, if_true, strOf_strs, strs_length, if_pos hl]; rfl

theorem compact_run (l : List (List UInt8)) (hl : l.length ≤ lim) : denF AP RPn 12 [.sl (.own true) 1 (strs l)] [] = some (.sl (.own true) 1 (strs (compS l)), []) := by
  rw [denF_prim (p := pCompactS) rfl]
  simp only [pCompactS, isStrs_strs, if_true, strOf_strs, strs_length, if_pos hl]; rfl

theorem build_run (l : List (List UInt8)) (hl : l.length ≤ 1000000) :
    denF AP RPn 7 [.sl .none 1 (strs l)] [] = some (.tup [.sl (.own false) 1 (strs (wordsOf l)), .sl (.own false) 1 (u64s (l.map (idx (wordsOf l))))], []) := by
  have hw : (wordsOf l).length ≤ 2147483648 := by have := wordsOf_length_le l; omega
  obtain ⟨s', q', f', h⟩ := build_loop l (wordsOf l) hw hl words_place (.sl (.own false) 1 []) (.sl (.own false) 1 []) l.length 0 [] .undef .undef .undef (by omega) rfl
  simp at h
  have h1 : l.length ≤ lim := by unfold lim; omega
  have h2 : (sortS l).length ≤ lim := by rw [sortS_length]; exact h1
  rw [denF_code (fn := af7) rfl]
  simp [af7, values_run, sorted_run l h1, compact_run _ h2, ← wordsOf.eq_1]
  simp [h]
end Go.VS
/- DictOrder: what it comes to. -/
namespace Go.VS

theorem words_loop (a : List (List UInt8)) (hl : a.length ≤ 2147483648) (d : Nat) : ∀ i : Nat, i + d = a.length → ∀ r, 
    den AP RPn lp8_0 { vars := [.sl .none 1 (strs a), .sl .none 1 (strs a), r, .int .i64 i], tmps := [], store := [] } = some (.exit 0, { vars := [.sl .none 1 (strs a), .sl .none 1 (strs a), r, .int .i64 a.length], tmps := [], store := [] }) := by
  induction d with
  | zero =>
    intro i hi r
    have : i = a.length := by omega
    subst this
    rw [lp8_0, den_loop_]
    simp [bd8_0]
  | succ d ih =>
    intro i hi r
    have hlt : i < a.length := by omega
    have h1 := ih (i + 1) (by omega) r
    rw [lp8_0, den_loop_]
    have e1 : IntKind.i64.wrap ((i : Int) + 1) = (i : Int) + 1 := wrap_i64 _ (by omega) (by omega)
    rw [← h1, lp8_0]
    simp [bd8_0, hlt, e1]

theorem words_run (a : List (List UInt8)) (hl : a.length ≤ 2147483648) : denF AP RPn 8 [.sl .none 1 (strs a), .sl .none 1 (strs a)] [] = some (.bool true, []) := by
  have h := words_loop a hl a.length 0 (by omega) (.bool false)
  simp at h
  rw [denF_code (fn := af8) rfl]
  simp [af8, h]

theorem back_loop (l : List (List UInt8)) (hl : l.length ≤ 1000000) (r w a b6 b7 b8 b9 b10 : AV) : ∀ k : Nat, k ≤ l.length →
    den AP RPn lp3_2 { vars := [.sl .none 1 (strs l), r, w, a, .sl (.own false) 1 (strs (l.drop k).reverse), .int .i64 ((k : Int) - 1), b6, b7, b8, b9, b10], tmps := [], store := [] } =
      some (.exit 0, { vars := [.sl .none 1 (strs l), r, w, a, .sl (.own false) 1 (strs l.reverse), .int .i64 (-1), b6, b7, b8, b9, b10], tmps := [], store := [] }) := by
  intro k
  induction k with
  | zero =>
    intro hk
    rw [lp3_2, den_loop_]
    simp [bd3_2]
  | succ k ih =>
    intro hk
    have hlt : k < l.length := by omega
    have h1 := ih (by omega)
    have e0 : (l.drop k).reverse = (l.drop (k + 1)).reverse ++ [l[k]] := by rw [List.drop_eq_getElem_cons hlt, List.reverse_cons]
    have e1 : IntKind.i64.wrap ((k : Int) - 1) = (k : Int) - 1 := wrap_i64 _ (by omega) (by omega)
    have e2 : ((k + 1 : Nat) : Int) - 1 = k := by omega
    have e3 : l.length - (k + 1) + 1 ≤ lim := by unfold lim; omega
    rw [← h1, e0, e2, lp3_2, den_loop_]
    simp [bd3_2, hlt, e1, e3]

theorem ask_loop (l w : List (List UInt8)) (hl : l.length ≤ 1000000) (hp : ∀ s ∈ l, w[idx w s]? = some s) (hw : w.length ≤ 1000000) (b4 b5 b6 b7 b10 : AV) (d : Nat) : ∀ (i : Nat) (asked : List Bool), i + d = l.length → asked.length = w.length →
    (∀ s ∈ l.take i, asked[idx w s]? = some true) →
    ∃ asked', asked'.length = w.length ∧ (∀ s ∈ l, asked'[idx w s]? = some true) ∧
    den AP RPn lp3_1 { vars := [.sl .none 1 (strs l), .bool false, .sl (.own false) 1 (strs w), .sl (.own false) 1 (u64s (l.map (idx w))), b4, b5, b6, b7, .sl (.own true) 1 (bools asked), .int .i64 i, b10], tmps := [], store := [] } =
      some (.exit 2, { vars := [.sl .none 1 (strs l), .bool false, .sl (.own false) 1 (strs w), .sl (.own false) 1 (u64s (l.map (idx w))), b4, b5, b6, b7, .sl (.own true) 1 (bools asked'), .int .i64 l.length, b10], tmps := [], store := [] }) := by
  induction d with
  | zero =>
    intro i asked hi ha hs
    have : i = l.length := by omega
    subst this
    refine ⟨asked, ha, by simpa using hs, ?_⟩
    rw [lp3_1, den_loop_]
    simp [bd3_1]
  | succ d ih =>
    intro i asked hi ha hs
    have hlt : i < l.length := by omega
    obtain ⟨hq, hg⟩ := List.getElem?_eq_some_iff.1 (hp l[i] (List.getElem_mem hlt))
    have hqa : idx w l[i] < asked.length := by omega
    obtain ⟨asked', h1, h2, h3⟩ := ih (i + 1) (asked.set (idx w l[i]) true) (by omega) (by simpa using ha) (by
      intro s hs'
      rw [List.take_succ_eq_append_getElem hlt, List.mem_append] at hs'
      by_cases e : idx w s = idx w l[i]
      · rw [e, List.getElem?_set_self hqa]
      · rw [List.getElem?_set_ne (Ne.symm e)]
        rcases hs' with hs' | hs'
        · exact hs s hs'
        · simp at hs'
          subst hs'
          exact absurd rfl e)
    refine ⟨asked', h1, h2, ?_⟩
    have e1 : IntKind.i64.wrap ((i : Int) + 1) = (i : Int) + 1 := wrap_i64 _ (by omega) (by omega)
    have e2 : IntKind.u64.wrap (w.length : Int) = (w.length : Int) := wrap_u64 _ (by omega) (by omega)
    have e3 : ¬ (w.length ≤ idx w l[i]) := by omega
    rw [← h3, lp3_1, den_loop_]
    simp [bd3_1, hlt, e1, e2, e3, hq, hg, hqa]

end Go.VS
/- DictOrder: what it comes to. -/
namespace Go.VS

theorem rise_loop (w : List (List UInt8)) (hr : w.Pairwise (· < ·)) (asked : List Bool) (ha : asked = List.replicate w.length true) (hw : w.length ≤ 1000000) (l at_ b4 b5 b6 b7 b9 : AV) (d : Nat) : ∀ (i : Nat), i + d = w.length →
    den AP RPn lp3_0 { vars := [l, .bool false, .sl (.own false) 1 (strs w), at_, b4, b5, b6, b7, .sl (.own true) 1 (bools asked), b9, .int .i64 i], tmps := [], store := [] } =
      some (.exit 4, { vars := [l, .bool false, .sl (.own false) 1 (strs w), at_, b4, b5, b6, b7, .sl (.own true) 1 (bools asked), b9, .int .i64 w.length], tmps := [], store := [] }) := by
  induction d with
  | zero =>
    intro i hi
    have : i = w.length := by omega
    subst this
    rw [lp3_0, den_loop_]
    simp [bd3_0]
  | succ d ih =>
    intro i hi
    have hlt : i < w.length := by omega
    have h1 := ih (i + 1) (by omega)
    have e1 : IntKind.i64.wrap ((i : Int) + 1) = (i : Int) + 1 := wrap_i64 _ (by omega) (by omega)
    have ea : ∀ h : i < asked.length, asked[i] = true := by subst ha; simp
    have el : asked.length = w.length := by subst ha; simp
    rw [← h1, lp3_0, den_loop_]
    by_cases h0 : i = 0
    · subst h0
      simp [bd3_0, hlt, ea, el, show IntKind.i64.wrap 1 = 1 from rfl]
    · obtain ⟨j, hj⟩ : ∃ j, i = j + 1 := ⟨i - 1, by omega⟩
      have hjl : j < w.length := by omega
      have hpos : 0 < i := by omega
      have e2 : IntKind.i64.wrap ((i : Int) - 1) = (j : Int) := by rw [wrap_i64 _ (by omega) (by omega)]; omega
      have hlt' := List.pairwise_iff_getElem.1 hr j i hjl hlt (by omega)
      have e3 : Op.bytesLess w[j] w[i] = true := by rw [bl_eq, decide_eq_true_eq]; exact hlt'
      simp [bd3_0, hlt, ea, el, e1, e2, e3, hpos, hjl]

theorem bools_replicate (n : Nat) (b : Bool) : List.replicate n (AV.bool b) = bools (List.replicate n b) := by simp [bools]

theorem order_run (l : List (List UInt8)) : denF AP RPn 3 [.sl .none 1 (strs l)] [] = some (.bool true, []) := by
  cases hf : fewB l with
  | false =>
    rw [denF_code (fn := af3) rfl]
    simp [af3, hf]
  | true =>
    have hl : l.length ≤ 100 := by simp only [fewB, Bool.and_eq_true, decide_eq_true_eq] at hf; exact hf.1
    have hw := wordsOf_length_le l
    have hrev : wordsOf l.reverse = wordsOf l := wordsOf_perm (List.reverse_perm l)
    have hb := build_run l (by omega)
    have hb' := build_run l.reverse (by simp; omega)
    rw [hrev] at hb'
    have hv := words_run (wordsOf l) (by omega)
    have hback := back_loop l (by omega) (.bool false) (.sl (.own false) 1 (strs (wordsOf l))) (.sl (.own false) 1 (u64s (l.map (idx (wordsOf l))))) .undef .undef .undef .undef .undef l.length (Nat.le_refl _)
    simp at hback
    obtain ⟨asked', h1, h2, h3⟩ := ask_loop l (wordsOf l) (by omega) (fun s hs => (words_place s hs).2) (by omega) (.sl (.own false) 1 (strs l.reverse)) (.int .i64 (-1)) (.sl (.own false) 1 (strs (wordsOf l))) (.sl (.own false) 1 (u64s (l.reverse.map (idx (wordsOf l))))) .undef l.length 0 (List.replicate (wordsOf l).length false) (by omega) (by simp) (by simp)
    simp at h3
    have hall : asked' = List.replicate (wordsOf l).length true := by
      apply List.ext_getElem
      · simpa using h1
      · intro i hi hi'
        have hiw : i < (wordsOf l).length := by simpa using hi'
        have hmem : (wordsOf l)[i] ∈ l := mem_wordsOf.1 (List.getElem_mem hiw)
        have := h2 _ hmem
        have hidx : idx (wordsOf l) (wordsOf l)[i] = i := by
          have hp := (words_place _ hmem)
          obtain ⟨hq, hg⟩ := List.getElem?_eq_some_iff.1 hp.2
          have hr := List.pairwise_iff_getElem.1 (wordsOf_rises l)
          rcases Nat.lt_trichotomy (idx (wordsOf l) (wordsOf l)[i]) i with h | h | h
          · have := hr _ _ hq hiw h; rw [hg] at this; exact absurd this (List.lt_irrefl _)
          · exact h
          · have := hr _ _ hiw hq h; rw [hg] at this; exact absurd this (List.lt_irrefl _)
        rw [hidx] at this
        obtain ⟨_, h⟩ := List.getElem?_eq_some_iff.1 this
        simpa using h
    have h4 := rise_loop (wordsOf l) (wordsOf_rises l) asked' hall (by omega) (.sl .none 1 (strs l)) (.sl (.own false) 1 (u64s (l.map (idx (wordsOf l))))) (.sl (.own false) 1 (strs l.reverse)) (.int .i64 (-1)) (.sl (.own false) 1 (strs (wordsOf l))) (.sl (.own false) 1 (u64s (l.reverse.map (idx (wordsOf l))))) (.int .i64 l.length) (wordsOf l).length 0 (by omega)
    simp at h4
    have e1 : IntKind.i64.wrap ((l.length : Int) - 1) = (l.length : Int) - 1 := wrap_i64 _ (by omega) (by omega)
    have e2 : (wordsOf l).length ≤ lim := by unfold lim; omega
    rw [denF_code (fn := af3) rfl]
    simp [af3, hf, hb, e1, hback, hb', hv, e2, bools_replicate, h3, h4]
end Go.VS
