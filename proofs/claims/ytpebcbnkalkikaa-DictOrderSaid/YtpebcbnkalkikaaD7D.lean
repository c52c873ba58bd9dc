/- DictOrder: what it comes to. -/
import Derived.Test.YtpebcbnkalkikaaD7C
namespace Go.VS

theorem rise_loop (w : List (List UInt8)) (hr : w.Pairwise (· < ·)) (asked : List Bool) (ha : asked = List.replicate w.length true) (hw : w.length ≤ 1000000) (l at_ b4 b5 b6 b7 b9 : AV) (d : Nat) : ∀ (i : Nat), i + d = w.length →
    den AP RPn lp3_0 { vars := [l, .bool false, .sl (.own false) 1 (strs w), at_, b4, b5, b6, b7, .sl (.own true) 1 (bools asked), b9, .int .i64 i], tmps := [], store := [] } =
      some (.exit 4, { vars := [l, .bool false, .sl (.own false) 1 (strs w), at_, b4, b5, b6, b7, .sl (.own true) 1 (bools asked), b9, .int .i64 w.length], tmps := [], store := [] }) := by
  induction d with
  | zero =>
    intro i hi
    have : i = w.length := by omega
    subst this
    rw [lp3_0, den_loop_]
    simp [bd3_0]
  | succ d ih =>
    intro i hi
    have hlt : i < w.length := by omega
    have h1 := ih (i + 1) (by omega)
    have e1 : IntKind.i64.wrap ((i : Int) + 1) = (i : Int) + 1 := wrap_i64 _ (by omega) (by omega)
    have ea : ∀ h : i < asked.length, asked[i] = true := by subst ha; simp
    have el : asked.length = w.length := by subst ha; simp
    rw [← h1, lp3_0, den_loop_]
    by_cases h0 : i = 0
    · subst h0
      simp [bd3_0, hlt, ea, el, show IntKind.i64.wrap 1 = 1 from rfl]
    · obtain ⟨j, hj⟩ : ∃ j, i = j + 1 := ⟨i - 1, by omega⟩
      have hjl : j < w.length := by omega
      have hpos : 0 < i := by omega
      have e2 : IntKind.i64.wrap ((i : Int) - 1) = (j : Int) := by rw [wrap_i64 _ (by omega) (by omega)]; omega
      have hlt' := List.pairwise_iff_getElem.1 hr j i hjl hlt (by omega)
      have e3 : Op.bytesLess w[j] w[i] = true := by rw [bl_eq, decide_eq_true_eq]; exact hlt'
      simp [bd3_0, hlt, ea, el, e1, e2, e3, hpos, hjl]

theorem bools_replicate (n : Nat) (b : Bool) : List.replicate n (AV.bool b) = bools (List.replicate n b) := by simp [bools]

theorem order_run (l : List (List UInt8)) : denF AP RPn 3 [.sl .none 1 (strs l)] [] = some (.bool true, []) := by
  cases hf : fewB l with
  | false =>
    rw [denF_code (fn := af3) rfl]
    simp [af3, hf]
  | true =>
    have hl : l.length ≤ 100 := by simp only [fewB, Bool.and_eq_true, decide_eq_true_eq] at hf; exact hf.1
    have hw := wordsOf_length_le l
    have hrev : wordsOf l.reverse = wordsOf l := wordsOf_perm (List.reverse_perm l)
    have hb := build_run l (by omega)
    have hb' := build_run l.reverse (by simp; omega)
    rw [hrev] at hb'
    have hv := words_run (wordsOf l) (by omega)
    have hback := back_loop l (by omega) (.bool false) (.sl (.own false) 1 (strs (wordsOf l))) (.sl (.own false) 1 (u64s (l.map (idx (wordsOf l))))) .undef .undef .undef .undef .undef l.length (Nat.le_refl _)
    simp at hback
    obtain ⟨asked', h1, h2, h3⟩ := ask_loop l (wordsOf l) (by omega) (fun s hs => (words_place s hs).2) (by omega) (.sl (.own false) 1 (strs l.reverse)) (.int .i64 (-1)) (.sl (.own false) 1 (strs (wordsOf l))) (.sl (.own false) 1 (u64s (l.reverse.map (idx (wordsOf l))))) .undef l.length 0 (List.replicate (wordsOf l).length false) (by omega) (by simp) (by simp)
    simp at h3
    have hall : asked' = List.replicate (wordsOf l).length true := by
      apply List.ext_getElem
      · simpa using h1
      · intro i hi hi'
        have hiw : i < (wordsOf l).length := by simpa using hi'
        have hmem : (wordsOf l)[i] ∈ l := mem_wordsOf.1 (List.getElem_mem hiw)
        have := h2 _ hmem
        have hidx : idx (wordsOf l) (wordsOf l)[i] = i := by
          have hp := (words_place _ hmem)
          obtain ⟨hq, hg⟩ := List.getElem?_eq_some_iff.1 hp.2
          have hr := List.pairwise_iff_getElem.1 (wordsOf_rises l)
          rcases Nat.lt_trichotomy (idx (wordsOf l) (wordsOf l)[i]) i with h | h | h
          · have := hr _ _ hq hiw h; rw [hg] at this; exact absurd this (List.lt_irrefl _)
          · exact h
          · have := hr _ _ hiw hq h; rw [hg] at this; exact absurd this (List.lt_irrefl _)
        rw [hidx] at this
        obtain ⟨_, h⟩ := List.getElem?_eq_some_iff.1 this
        simpa using h
    have h4 := rise_loop (wordsOf l) (wordsOf_rises l) asked' hall (by omega) (.sl .none 1 (strs l)) (.sl (.own false) 1 (u64s (l.map (idx (wordsOf l))))) (.sl (.own false) 1 (strs l.reverse)) (.int .i64 (-1)) (.sl (.own false) 1 (strs (wordsOf l))) (.sl (.own false) 1 (u64s (l.reverse.map (idx (wordsOf l))))) (.int .i64 l.length) (wordsOf l).length 0 (by omega)
    simp at h4
    have e1 : IntKind.i64.wrap ((l.length : Int) - 1) = (l.length : Int) - 1 := wrap_i64 _ (by omega) (by omega)
    have e2 : (wordsOf l).length ≤ lim := by unfold lim; omega
    rw [denF_code (fn := af3) rfl]
    simp [af3, hf, hb, e1, hback, hb', hv, e2, bools_replicate, h3, h4]
end Go.VS
