/- dict, chapter 7: few, cmp.Less, BinarySearch, Build, Words. -/
import Derived.Test.YtpebcbnkalkikaaTstA
import Derived.Test.YtpebcbnkalkikaaVsSim
import Derived.Test.YtpebcbnkalkikaaVsPrim2
namespace Go.VS

def fewB (l : List (List UInt8)) : Bool := decide (l.length ≤ 100) && l.all fun s => decide (s.length ≤ 400)

theorem few_loop (l : List (List UInt8)) (hl : l.length ≤ 100) (d : Nat) : ∀ i : Nat, i + d = l.length →
    ∃ out j, den AP RPn lp6_0 { vars := [.sl .none 1 (strs l), .bool false, .int .i64 i], tmps := [], store := [] } = some (out, { vars := [.sl .none 1 (strs l), .bool false, .int .i64 j], tmps := [], store := [] }) ∧
      out = if (l.drop i).all (fun s => decide (s.length ≤ 400)) then .exit 0 else .ret := by
  induction d with
  | zero =>
    intro i hi
    have : i = l.length := by omega
    subst this
    refine ⟨_, l.length, ?_, rfl⟩
    rw [lp6_0, den_loop_]
    simp [bd6_0]
  | succ d ih =>
    intro i hi
    have hlt : i < l.length := by omega
    rw [lp6_0, den_loop_]
    by_cases h : l[i].length ≤ 400
    · obtain ⟨out, j, h1, h2⟩ := ih (i + 1) (by omega)
      refine ⟨out, j, ?_, ?_⟩
      · simp [bd6_0, hlt, show ¬ (400 < l[i].length) by omega]
        rw [wrap_i64 _ (by omega) (by omega)]
        exact h1
      · rw [h2, List.drop_eq_getElem_cons hlt, List.all_cons, decide_eq_true h, Bool.true_and]
    · refine ⟨.ret, i, ?_, ?_⟩
      · simp [bd6_0, hlt, show (400 < l[i].length) by omega]
      · rw [List.drop_eq_getElem_cons hlt, List.all_cons, decide_eq_false h, Bool.false_and]; rfl

@[simp] theorem few_run (l : List (List UInt8)) : denF AP RPn 6 [.sl .none 1 (strs l)] [] = some (.bool (fewB l), []) := by
  rw [denF_code (fn := af6) rfl]
  by_cases hl : l.length ≤ 100
  · obtain ⟨out, j, h1, h2⟩ := few_loop l hl l.length 0 (by omega)
    have hf : fewB l = l.all fun s => decide (s.length ≤ 400) := by simp only [fewB, hl, decide_true, Bool.true_and]
    rw [List.drop_zero, ← hf] at h2
    subst h2
    simp only [Int.natCast_zero] at h1
    cases h : fewB l with
    | true =>
      simp only [h, if_true] at h1
      simp [af6, show ¬ (100 < l.length) by omega, h1]
    | false =>
      simp only [h, Bool.false_eq_true, if_false] at h1
      simp [af6, show ¬ (100 < l.length) by omega, h1]
  · simp [af6, show (100 < l.length) by omega, fewB, hl]

@[simp] theorem isNaN_run (s : List UInt8) : denF AP RPn 39 [.str s] [] = some (.bool false, []) := by
  rw [denF_code (fn := af39) rfl]
  simp [af39]

@[simp] theorem isNaN_run' (s : List UInt8) : denF AP RPn 29 [.str s] [] = some (.bool false, []) := by
  rw [denF_code (fn := af29) rfl]
  simp [af29]

@[simp] theorem less_run (x y : List UInt8) : denF AP RPn 28 [.str x, .str y] [] = some (.bool (Op.bytesLess x y), []) := by
  rw [denF_code (fn := af28) rfl]
  simp [af28]

theorem bs_loop (w : List (List UInt8)) (s : List UInt8) (q : Nat) (hq : Place w s q) (hl : w.length ≤ 2147483648) (z y : AV) (d : Nat) : ∀ (i j : Nat) (h : AV), j - i = d → i ≤ q → q ≤ j → j ≤ w.length →
    ∃ h', den AP RPn lp15_0 { vars := [.sl .none 1 (strs w), .str s, z, y, .int .i64 w.length, .int .i64 i, .int .i64 j, h], tmps := [], store := [] } = some (.exit 0, { vars := [.sl .none 1 (strs w), .str s, z, y, .int .i64 w.length, .int .i64 q, .int .i64 q, h'], tmps := [], store := [] }) := by
  induction d using Nat.strongRecOn with
  | _ d ih =>
    intro i j h hd hi hj hjl
    rw [lp15_0, den_loop_]
    by_cases hlt : i < j
    · have hm : (i + j) / 2 < w.length := by omega
      have hx : w[(i + j) / 2]? = some w[(i + j) / 2] := List.getElem?_eq_getElem hm
      have e1 : IntKind.i64.wrap ((i : Int) + j) = (i : Int) + j := wrap_i64 _ (by omega) (by omega)
      have e2 : IntKind.u64.wrap ((i : Int) + j) = (i : Int) + j := wrap_u64 _ (by omega) (by omega)
      have e3 : ((i : Int) + j).fdiv (2 ^ min 1 IntKind.u64.bits) = (((i + j) / 2 : Nat) : Int) := by
        rw [show (2 : Int) ^ min 1 IntKind.u64.bits = 2 from rfl, Int.fdiv_eq_ediv_of_nonneg _ (by omega)]; omega
      have e4 : IntKind.i64.wrap (((i + j) / 2 : Nat) : Int) = (((i + j) / 2 : Nat) : Int) := wrap_i64 _ (by omega) (by omega)
      have e5 : IntKind.i64.wrap ((((i + j) / 2 : Nat) : Int) + 1) = (((i + j) / 2 + 1 : Nat) : Int) := wrap_i64 _ (by omega) (by omega)
      cases hb : Op.bytesLess w[(i + j) / 2] s with
      | true =>
        have : (i + j) / 2 < q := by
          rcases Nat.lt_or_ge ((i + j) / 2) q with h1 | h1
          · exact h1
          · rw [hq.not _ _ h1 hx] at hb; simp at hb
        obtain ⟨h', h6⟩ := ih (j - ((i + j) / 2 + 1)) (by omega) ((i + j) / 2 + 1) j (.int .i64 ((i + j) / 2 : Nat)) rfl (by omega) hj hjl
        refine ⟨h', ?_⟩
        rw [← h6, lp15_0]
        generalize hk : (i + j) / 2 = m at *
        simp [bd15_0, hlt, e1, e2, e3, e4, hm, hb]
        simp at e5
        rw [e5]
      | false =>
        have : q ≤ (i + j) / 2 := by
          rcases Nat.lt_or_ge ((i + j) / 2) q with h1 | h1
          · rw [hq.less _ _ h1 hx] at hb; simp at hb
          · exact h1
        obtain ⟨h', h6⟩ := ih ((i + j) / 2 - i) (by omega) i ((i + j) / 2) (.int .i64 ((i + j) / 2 : Nat)) rfl hi this (by omega)
        refine ⟨h', ?_⟩
        rw [← h6, lp15_0]
        generalize hk : (i + j) / 2 = m at *
        simp [bd15_0, hlt, e1, e2, e3, e4, hm, hb]
    · have h1 : i = q := by omega
      have h2 : j = q := by omega
      subst h1
      subst h2
      exact ⟨h, by simp [bd15_0]⟩

theorem bs_run (w : List (List UInt8)) (s : List UInt8) (q : Nat) (hq : Place w s q) (hs : w[q]? = some s) (hl : w.length ≤ 2147483648) :
    denF AP RPn 15 [.sl .none 1 (strs w), .str s] [] = some (.tup [.int .i64 q, .bool true], []) := by
  obtain ⟨h', h1⟩ := bs_loop w s q hq hl (.int .i64 0) (.bool false) (w.length - 0) 0 w.length .undef rfl (by omega) hq.le (Nat.le_refl _)
  simp at h1
  obtain ⟨hql, hw⟩ := List.getElem?_eq_some_iff.1 hs
  rw [denF_code (fn := af15) rfl]
  simp [af15, h1, hql, hw]
end Go.VS
