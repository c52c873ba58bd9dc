/- DictOrder: what it comes to. -/
import Derived.Test.YtpebcbnkalkikaaD7B
import Derived.Test.YtpebcbnkalkikaaTstB
namespace Go.VS

theorem words_loop (a : List (List UInt8)) (hl : a.length ≤ 2147483648) (d : Nat) : ∀ i : Nat, i + d = a.length → ∀ r, 
    den AP RPn lp8_0 { vars := [.sl .none 1 (strs a), .sl .none 1 (strs a), r, .int .i64 i], tmps := [], store := [] } = some (.exit 0, { vars := [.sl .none 1 (strs a), .sl .none 1 (strs a), r, .int .i64 a.length], tmps := [], store := [] }) := by
  induction d with
  | zero =>
    intro i hi r
    have : i = a.length := by omega
    subst this
    rw [lp8_0, den_loop_]
    simp [bd8_0]
  | succ d ih =>
    intro i hi r
    have hlt : i < a.length := by omega
    have h1 := ih (i + 1) (by omega) r
    rw [lp8_0, den_loop_]
    have e1 : IntKind.i64.wrap ((i : Int) + 1) = (i : Int) + 1 := wrap_i64 _ (by omega) (by omega)
    rw [← h1, lp8_0]
    simp [bd8_0, hlt, e1]

theorem words_run (a : List (List UInt8)) (hl : a.length ≤ 2147483648) : denF AP RPn 8 [.sl .none 1 (strs a), .sl .none 1 (strs a)] [] = some (.bool true, []) := by
  have h := words_loop a hl a.length 0 (by omega) (.bool false)
  simp at h
  rw [denF_code (fn := af8) rfl]
  simp [af8, h]

theorem back_loop (l : List (List UInt8)) (hl : l.length ≤ 1000000) (r w a b6 b7 b8 b9 b10 : AV) : ∀ k : Nat, k ≤ l.length →
    den AP RPn lp3_2 { vars := [.sl .none 1 (strs l), r, w, a, .sl (.own false) 1 (strs (l.drop k).reverse), .int .i64 ((k : Int) - 1), b6, b7, b8, b9, b10], tmps := [], store := [] } =
      some (.exit 0, { vars := [.sl .none 1 (strs l), r, w, a, .sl (.own false) 1 (strs l.reverse), .int .i64 (-1), b6, b7, b8, b9, b10], tmps := [], store := [] }) := by
  intro k
  induction k with
  | zero =>
    intro hk
    rw [lp3_2, den_loop_]
    simp [bd3_2]
  | succ k ih =>
    intro hk
    have hlt : k < l.length := by omega
    have h1 := ih (by omega)
    have e0 : (l.drop k).reverse = (l.drop (k + 1)).reverse ++ [l[k]] := by rw [List.drop_eq_getElem_cons hlt, List.reverse_cons]
    have e1 : IntKind.i64.wrap ((k : Int) - 1) = (k : Int) - 1 := wrap_i64 _ (by omega) (by omega)
    have e2 : ((k + 1 : Nat) : Int) - 1 = k := by omega
    have e3 : l.length - (k + 1) + 1 ≤ lim := by unfold lim; omega
    rw [← h1, e0, e2, lp3_2, den_loop_]
    simp [bd3_2, hlt, e1, e3]

theorem ask_loop (l w : List (List UInt8)) (hl : l.length ≤ 1000000) (hp : ∀ s ∈ l, w[idx w s]? = some s) (hw : w.length ≤ 1000000) (b4 b5 b6 b7 b10 : AV) (d : Nat) : ∀ (i : Nat) (asked : List Bool), i + d = l.length → asked.length = w.length →
    (∀ s ∈ l.take i, asked[idx w s]? = some true) →
    ∃ asked', asked'.length = w.length ∧ (∀ s ∈ l, asked'[idx w s]? = some true) ∧
    den AP RPn lp3_1 { vars := [.sl .none 1 (strs l), .bool false, .sl (.own false) 1 (strs w), .sl (.own false) 1 (u64s (l.map (idx w))), b4, b5, b6, b7, .sl (.own true) 1 (bools asked), .int .i64 i, b10], tmps := [], store := [] } =
      some (.exit 2, { vars := [.sl .none 1 (strs l), .bool false, .sl (.own false) 1 (strs w), .sl (.own false) 1 (u64s (l.map (idx w))), b4, b5, b6, b7, .sl (.own true) 1 (bools asked'), .int .i64 l.length, b10], tmps := [], store := [] }) := by
  induction d with
  | zero =>
    intro i asked hi ha hs
    have : i = l.length := by omega
    subst this
    refine ⟨asked, ha, by simpa using hs, ?_⟩
    rw [lp3_1, den_loop_]
    simp [bd3_1]
  | succ d ih =>
    intro i asked hi ha hs
    have hlt : i < l.length := by omega
    obtain ⟨hq, hg⟩ := List.getElem?_eq_some_iff.1 (hp l[i] (List.getElem_mem hlt))
    have hqa : idx w l[i] < asked.length := by omega
    obtain ⟨asked', h1, h2, h3⟩ := ih (i + 1) (asked.set (idx w l[i]) true) (by omega) (by simpa using ha) (by
      intro s hs'
      rw [List.take_succ_eq_append_getElem hlt, List.mem_append] at hs'
      by_cases e : idx w s = idx w l[i]
      · rw [e, List.getElem?_set_self hqa]
      · rw [List.getElem?_set_ne (Ne.symm e)]
        rcases hs' with hs' | hs'
        · exact hs s hs'
        · simp at hs'
          subst hs'
          exact absurd rfl e)
    refine ⟨asked', h1, h2, ?_⟩
    have e1 : IntKind.i64.wrap ((i : Int) + 1) = (i : Int) + 1 := wrap_i64 _ (by omega) (by omega)
    have e2 : IntKind.u64.wrap (w.length : Int) = (w.length : Int) := wrap_u64 _ (by omega) (by omega)
    have e3 : ¬ (w.length ≤ idx w l[i]) := by omega
    rw [← h3, lp3_1, den_loop_]
    simp [bd3_1, hlt, e1, e2, e3, hq, hg, hqa]

end Go.VS
