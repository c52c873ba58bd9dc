/- dict.Build, Words. -/
import Derived.Test.YtpebcbnkalkikaaD7A
namespace Go.VS

@[simp] theorem u64s_nil' : u64s [] = [] := rfl
@[simp] theorem strs_nil' : strs [] = [] := rfl
@[simp] theorem bools_nil' : bools [] = [] := rfl

theorem build_loop (l w : List (List UInt8)) (hw : w.length ≤ 2147483648) (hl : l.length ≤ 1000000) (hp : ∀ s ∈ l, Place w s (idx w s) ∧ w[idx w s]? = some s) (a b : AV) (d : Nat) : ∀ (k : Nat) (at_ : List Nat) (s q f : AV), k + d = l.length → at_.length = k →
    ∃ s' q' f', den AP RPn lp7_0 { vars := [.sl .none 1 (strs l), a, b, .sl (.own false) 1 (strs w), .sl (.own false) 1 (u64s at_), s, q, f, .int .i64 k, .int .i64 l.length, .sl .none 1 (strs l)], tmps := [], store := [] } =
      some (.exit 0, { vars := [.sl .none 1 (strs l), a, b, .sl (.own false) 1 (strs w), .sl (.own false) 1 (u64s (at_ ++ (l.drop k).map (idx w))), s', q', f', .int .i64 l.length, .int .i64 l.length, .sl .none 1 (strs l)], tmps := [], store := [] }) := by
  induction d with
  | zero =>
    intro k at_ s q f hk ha
    have : k = l.length := by omega
    subst this
    refine ⟨s, q, f, ?_⟩
    rw [lp7_0, den_loop_]
    simp [bd7_0]
  | succ d ih =>
    intro k at_ s q f hk ha
    have hlt : k < l.length := by omega
    obtain ⟨h1, h2⟩ := hp l[k] (List.getElem_mem hlt)
    obtain ⟨s', q', f', h3⟩ := ih (k + 1) (at_ ++ [idx w l[k]]) (.str l[k]) (.int .i64 (idx w l[k])) (.bool true) (by omega) (by simp [ha])
    refine ⟨s', q', f', ?_⟩
    have e0 : at_ ++ (l.drop k).map (idx w) = (at_ ++ [idx w l[k]]) ++ (l.drop (k + 1)).map (idx w) := by rw [List.drop_eq_getElem_cons hlt, List.map_cons, List.append_assoc, List.singleton_append]
    rw [e0, ← h3]
    have hq := h1.le
    have e1 : IntKind.i64.wrap ((k : Int) + 1) = (k : Int) + 1 := wrap_i64 _ (by omega) (by omega)
    have e2 : IntKind.u64.wrap (idx w l[k] : Int) = (idx w l[k] : Int) := wrap_u64 _ (by omega) (by omega)
    have e3 : at_.length + 1 ≤ lim := by unfold lim; omega
    rw [lp7_0, den_loop_]
    simp [bd7_0, hlt, bs_run w l[k] _ h1 h2 hw, e1, e2, e3]

theorem values_run (l : List (List UInt8)) : denF AP RPn 14 [.sl .none 1 (strs l)] [] = some (.seq 27 1 (strs l), []) := by
  rw [denF_code (fn := af14) rfl]
  simp [af14]

theorem sorted_run (l : List (List UInt8)) (hl : l.length ≤ lim) : denF AP RPn 13 [.seq 27 1 (strs l)] [] = some (.sl (.own true) 1 (strs (sortS l)), []) := by
  rw [denF_prim (p := pSortedS 27) rfl]
  simp only [pSortedS, isStrs_strs, if_true, strOf_strs, strs_length, if_pos hl]; rfl

theorem compact_run (l : List (List UInt8)) (hl : l.length ≤ lim) : denF AP RPn 12 [.sl (.own true) 1 (strs l)] [] = some (.sl (.own true) 1 (strs (compS l)), []) := by
  rw [denF_prim (p := pCompactS) rfl]
  simp only [pCompactS, isStrs_strs, if_true, strOf_strs, strs_length, if_pos hl]; rfl

theorem build_run (l : List (List UInt8)) (hl : l.length ≤ 1000000) :
    denF AP RPn 7 [.sl .none 1 (strs l)] [] = some (.tup [.sl (.own false) 1 (strs (wordsOf l)), .sl (.own false) 1 (u64s (l.map (idx (wordsOf l))))], []) := by
  have hw : (wordsOf l).length ≤ 2147483648 := by have := wordsOf_length_le l; omega
  obtain ⟨s', q', f', h⟩ := build_loop l (wordsOf l) hw hl words_place (.sl (.own false) 1 []) (.sl (.own false) 1 []) l.length 0 [] .undef .undef .undef (by omega) rfl
  simp at h
  have h1 : l.length ≤ lim := by unfold lim; omega
  have h2 : (sortS l).length ≤ lim := by rw [sortS_length]; exact h1
  rw [denF_code (fn := af7) rfl]
  simp [af7, values_run, sorted_run l h1, compact_run _ h2, ← wordsOf.eq_1]
  simp [h]
end Go.VS
