/- num.Put, Width, pack.Put on what DictLong needs. -/
import Derived.Test.YtpebcbnkalkikaaDa
namespace Go.VS

def u8s (l : List Nat) : List AV := l.map fun (n : Nat) => .int .u8 (n : Int)
@[simp] theorem u8s_length (l : List Nat) : (u8s l).length = l.length := by simp [u8s]
@[simp] theorem u8s_getE (l : List Nat) (i : Nat) (h : i < (u8s l).length) : (u8s l)[i] = .int .u8 ((l[i]'(by simpa using h) : Nat) : Int) := by simp [u8s]
@[simp] theorem u8s_snoc (l : List Nat) (n : Nat) : u8s l ++ [.int .u8 (n : Int)] = u8s (l ++ [n]) := by simp [u8s]
@[simp] theorem u8s_append (l k : List Nat) : u8s l ++ u8s k = u8s (l ++ k) := by simp [u8s]
@[simp] theorem u8s_nil' : u8s [] = [] := rfl
@[simp] theorem u8s_set (l : List Nat) (i n : Nat) : (u8s l).set i (.int .u8 (n : Int)) = u8s (l.set i n) := by simp [u8s]

/-- A number in bytes, seven bits by seven. -/
def numB (u : Nat) : List Nat := if u < 128 then [u] else (u % 128 + 128) :: numB (u / 128)
termination_by u
decreasing_by omega

theorem numB_small {u : Nat} (h : u < 128) : numB u = [u] := by rw [numB, if_pos h]
theorem numB_great {u : Nat} (h : ¬ u < 128) : numB u = (u % 128 + 128) :: numB (u / 128) := by rw [numB, if_neg h]

theorem or128 : ∀ x : Fin 256, bitsOp .u8 (fun a b => a ||| b) (x.val : Int) 128 = ((x.val % 128 + 128 : Nat) : Int) := by decide +kernel

theorem put_loop (r : AV) : ∀ (n u : Nat) (pre : List Nat), u ≤ n → u < 18446744073709551616 → pre.length + u ≤ 4000 →
    ∃ (us : List Nat) (v : Nat), us ++ [v] = numB u ∧ v < 128 ∧ den AP RPn lp18_0 { vars := [.sl (.own false) 1 (u8s pre), .int .u64 u, r], tmps := [], store := [] } = some (.exit 0, { vars := [.sl (.own false) 1 (u8s (pre ++ us)), .int .u64 v, r], tmps := [], store := [] }) := by
  intro n
  induction n using Nat.strongRecOn with
  | _ n ih =>
    intro u pre hn hu hp
    rw [lp18_0, den_loop_]
    by_cases h : u < 128
    · refine ⟨[], u, by rw [numB_small h]; rfl, h, ?_⟩
      simp [bd18_0, show ¬ (128 ≤ u) by omega]
    · obtain ⟨us, v, h1, h2, h3⟩ := ih (u / 128) (by omega) (u / 128) (pre ++ [u % 128 + 128]) (Nat.le_refl _) (by omega) (by simp; omega)
      refine ⟨(u % 128 + 128) :: us, v, by rw [numB_great h, ← h1]; rfl, h2, ?_⟩
      have e1 : IntKind.u8.wrap (u : Int) = ((u % 256 : Nat) : Int) := by
        unfold IntKind.wrap
        simp [IntKind.bits, IntKind.signed]
      have e2 := or128 ⟨u % 256, by omega⟩
      simp only [show u % 256 % 128 = u % 128 by omega] at e2
      have e3 : (u : Int).fdiv (2 ^ min 7 IntKind.u64.bits) = ((u / 128 : Nat) : Int) := by
        rw [show (2 : Int) ^ min 7 IntKind.u64.bits = 128 from rfl, Int.fdiv_eq_ediv_of_nonneg _ (by omega)]; omega
      have e4 : pre.length + 1 ≤ lim := by unfold lim; omega
      rw [show pre ++ (u % 128 + 128) :: us = pre ++ [u % 128 + 128] ++ us by simp, ← h3, lp18_0]
      generalize hq : u / 128 = q at *
      generalize hx : u % 256 = x at *
      generalize hy : u % 128 + 128 = y at *
      simp [bd18_0, show 128 ≤ u by omega, e1, e2, e3, e4]

theorem clone_full : denF AP RPn 31 [.sl .full 1 []] [] = some (.sl (.own true) 1 [], []) := by
  rw [denF_prim (p := pClone1) rfl]; rfl
theorem clone_run (l : List AV) (h : l.length ≤ lim) : denF AP RPn 31 [.sl .none 1 l] [] = some (.sl (.own true) 1 l, []) := by
  rw [denF_prim (p := pClone1) rfl]; simp only [pClone1, if_pos h]

theorem numput_run (pre : List Nat) (u : Nat) (hu : u < 18446744073709551616) (hp : pre.length + u ≤ 4000) :
    denF AP RPn 18 [.sl .none 1 (u8s pre), .int .u64 u] [] = some (.sl (.own false) 1 (u8s (pre ++ numB u)), []) := by
  obtain ⟨us, v, h1, h2, h3⟩ := put_loop (.sl (.own false) 1 []) u u pre (Nat.le_refl _) hu hp
  have hc := clone_run (u8s pre) (by simp [lim]; omega)
  have e1 : IntKind.u8.wrap (v : Int) = (v : Int) := wrap_u8 _ (by omega) (by omega)
  have hl : us.length + 1 ≤ u + 1 := by
    have : (numB u).length ≤ u + 1 := by
      have : ∀ n u, u ≤ n → (numB u).length ≤ u + 1 := by
        intro n
        induction n using Nat.strongRecOn with
        | _ n ih =>
          intro u hn
          by_cases h : u < 128
          · rw [numB_small h]; simp
          · rw [numB_great h]
            have := ih (u / 128) (by omega) (u / 128) (Nat.le_refl _)
            simp only [List.length_cons]; omega
      exact this u u (Nat.le_refl _)
    rw [← h1] at this
    simpa using this
  have e2 : pre.length + us.length + 1 ≤ lim := by unfold lim; omega
  rw [denF_code (fn := af18) rfl, ← h1]
  simp [af18, hc, h3, e1, e2]
end Go.VS
/- ContainsFunc, Len64, Width, pack.Put on what DictLong needs. -/
namespace Go.VS

theorem numput_nil (u : Nat) (hu : u < 18446744073709551616) (hp : u ≤ 4000) :
    denF AP RPn 18 [.sl .full 1 [], .int .u64 u] [] = some (.sl (.own false) 1 (u8s (numB u)), []) := by
  obtain ⟨us, v, h1, h2, h3⟩ := put_loop (.sl (.own false) 1 []) u u [] (Nat.le_refl _) hu (by simpa using hp)
  have e1 : IntKind.u8.wrap (v : Int) = (v : Int) := wrap_u8 _ (by omega) (by omega)
  have hl : us.length + 1 ≤ u + 1 := by
    have : (numB u).length ≤ u + 1 := by
      have : ∀ n u, u ≤ n → (numB u).length ≤ u + 1 := by
        intro n
        induction n using Nat.strongRecOn with
        | _ n ih =>
          intro u hn
          by_cases h : u < 128
          · rw [numB_small h]; simp
          · rw [numB_great h]
            have := ih (u / 128) (by omega) (u / 128) (Nat.le_refl _)
            simp only [List.length_cons]; omega
      exact this u u (Nat.le_refl _)
    rw [← h1] at this
    simpa using this
  have e2 : us.length + 1 ≤ lim := by unfold lim; omega
  rw [denF_code (fn := af18) rfl, ← h1]
  simp at h3
  simp [af18, clone_full, h3, e1, e2]

@[simp] theorem long_run (s : List UInt8) : denF AP RPn 17 [.str s] [] = some (.bool (decide (255 < s.length)), []) := by
  rw [denF_code (fn := af17) rfl]
  simp [af17]

theorem any_loop (l : List (List UInt8)) (hl : l.length ≤ 1000000) (d : Nat) : ∀ (i : Nat) (a : AV), i + d = l.length →
    ∃ out r b j, den AP RPn lp30_0 { vars := [.sl .none 1 (strs l), .func 17 [], .int .i64 0, a, .int .i64 i, .int .i64 l.length], tmps := [], store := [] } =
      some (out, { vars := [.sl .none 1 (strs l), .func 17 [], .int .i64 r, b, .int .i64 j, .int .i64 l.length], tmps := [], store := [] }) ∧
      ((l.drop i).any (fun s => decide (255 < s.length)) = true ∧ out = .ret ∧ 0 ≤ r ∨ (l.drop i).any (fun s => decide (255 < s.length)) = false ∧ out = .exit 0) := by
  induction d with
  | zero =>
    intro i a hi
    have : i = l.length := by omega
    subst this
    refine ⟨.exit 0, 0, a, l.length, ?_, .inr ⟨by simp, rfl⟩⟩
    rw [lp30_0, den_loop_]
    simp [bd30_0]
  | succ d ih =>
    intro i a hi
    have hlt : i < l.length := by omega
    have e1 : IntKind.i64.wrap ((i : Int) + 1) = (i : Int) + 1 := wrap_i64 _ (by omega) (by omega)
    rw [List.drop_eq_getElem_cons hlt, List.any_cons]
    by_cases h : 255 < l[i].length
    · refine ⟨.ret, i, .int .i64 i, i, ?_, .inl ⟨by rw [decide_eq_true h]; rfl, rfl, by omega⟩⟩
      rw [lp30_0, den_loop_]
      simp [bd30_0, hlt, h]
    · obtain ⟨out, r, b, j, h1, h2⟩ := ih (i + 1) (.int .i64 i) (by omega)
      refine ⟨out, r, b, j, ?_, by rw [decide_eq_false h, Bool.false_or]; exact h2⟩
      rw [← h1, lp30_0, den_loop_]
      simp [bd30_0, hlt, h, e1]

theorem contains_run (l : List (List UInt8)) (hl : l.length ≤ 1000000) : denF AP RPn 16 [.sl .none 1 (strs l), .func 17 []] [] = some (.bool (l.any fun s => decide (255 < s.length)), []) := by
  obtain ⟨out, r, b, j, h1, h2⟩ := any_loop l hl l.length 0 .undef (by omega)
  simp only [List.drop_zero] at h2
  simp only [Int.natCast_zero] at h1
  have h30 : denF AP RPn 30 [.sl .none 1 (strs l), .func 17 []] [] = some (.int .i64 (if (l.any fun s => decide (255 < s.length)) = true then r else -1), []) := by
    rw [denF_code (fn := af30) rfl]
    rcases h2 with ⟨h2, rfl, h3⟩ | ⟨h2, rfl⟩
    · rw [h2]; simp [af30, h1]
    · rw [h2]; simp [af30, h1]
  rw [denF_code (fn := af16) rfl]
  rcases h2 with ⟨h2, rfl, h3⟩ | ⟨h2, rfl⟩
  · rw [h2] at h30 ⊢
    simp only [if_true] at h30
    simp [af16, h30, h3]
  · rw [h2] at h30 ⊢
    simp only [Bool.false_eq_true, if_false] at h30
    simp [af16, h30]

theorem ev33 : evalF AP RPn 50 33 [.int .u64 0] [] = some (.int .i64 0, []) := by kernel_rfl
theorem ev33' : evalF AP RPn 50 33 [.int .u64 1] [] = some (.int .i64 1, []) := by kernel_rfl
theorem len64_run (u : Nat) (h : u ≤ 1) : denF AP RPn 33 [.int .u64 u] [] = some (.int .i64 u, []) := by
  have : u = 0 ∨ u = 1 := by omega
  rcases this with rfl | rfl
  · exact denF_eval ev33
  · exact denF_eval ev33'

theorem width_loop (l : List Nat) (h : ∀ x ∈ l, x ≤ 1) (hl : l.length ≤ 1000000) (r : AV) (d : Nat) : ∀ (i n : Nat) (a : AV), i + d = l.length → n ≤ 1 →
    ∃ b, den AP RPn lp20_0 { vars := [.sl .none 1 (u64s l), r, .int .i64 n, a, .int .i64 i, .int .i64 l.length, .sl .none 1 (u64s l)], tmps := [], store := [] } =
      some (.exit 0, { vars := [.sl .none 1 (u64s l), r, .int .i64 ((l.drop i).foldl max n : Nat), b, .int .i64 l.length, .int .i64 l.length, .sl .none 1 (u64s l)], tmps := [], store := [] }) := by
  induction d with
  | zero =>
    intro i n a hi hn
    have : i = l.length := by omega
    subst this
    refine ⟨a, ?_⟩
    rw [lp20_0, den_loop_]
    simp [bd20_0]
  | succ d ih =>
    intro i n a hi hn
    have hlt : i < l.length := by omega
    have hx := h l[i] (List.getElem_mem hlt)
    have e1 : IntKind.i64.wrap ((i : Int) + 1) = (i : Int) + 1 := wrap_i64 _ (by omega) (by omega)
    obtain ⟨b, h1⟩ := ih (i + 1) (max n l[i]) (.int .u64 l[i]) (by omega) (by omega)
    refine ⟨b, ?_⟩
    rw [List.drop_eq_getElem_cons hlt, List.foldl_cons, ← h1, lp20_0, den_loop_]
    have e2 : (if n < l[i] then ((l[i] : Nat) : Int) else (n : Int)) = ((max n l[i] : Nat) : Int) := by
      split <;> omega
    generalize max n l[i] = m at *
    simp [bd20_0, hlt, len64_run _ hx, e1, e2]

theorem width_run (l : List Nat) (h : ∀ x ∈ l, x ≤ 1) (hl : l.length ≤ 1000000) : denF AP RPn 20 [.sl .none 1 (u64s l)] [] = some (.int .i64 (l.foldl max 0 : Nat), []) := by
  obtain ⟨b, h1⟩ := width_loop l h hl (.int .i64 0) l.length 0 0 .undef (by omega) (by omega)
  simp only [Int.natCast_zero, List.drop_zero] at h1
  rw [denF_code (fn := af20) rfl]
  simp [af20, h1]
end Go.VS
/- pack.Put on what DictLong needs. -/
namespace Go.VS

@[simp] theorem may_run (n w : Nat) (hn : n ≤ 65536) (hw : w ≤ 64) : denF AP RPn 34 [.int .i64 n, .int .i64 w] [] = some (.bool true, []) := by
  rw [denF_code (fn := af34) rfl]
  simp [af34, hn, hw]

theorem size_run (n w : Nat) (hn : n ≤ 65536) (hw : w ≤ 1) : denF AP RPn 32 [.int .i64 n, .int .i64 w] [] = some (.int .i64 ((n * w + 7) / 8 : Nat), []) := by
  rw [denF_code (fn := af32) rfl]
  have h0 : n * w ≤ 65536 := by
    have : w = 0 ∨ w = 1 := by omega
    rcases this with rfl | rfl <;> omega
  obtain ⟨q, hq⟩ : ∃ q, q = (n * w + 7) / 8 := ⟨_, rfl⟩
  obtain ⟨p, hp⟩ : ∃ p, p = n * w := ⟨_, rfl⟩
  have e0 : (n : Int) * w = (p : Int) := by rw [hp]; simp
  have e1 : IntKind.i64.wrap (p : Int) = (p : Int) := wrap_i64 _ (by omega) (by omega)
  have e2 : IntKind.i64.wrap ((p : Int) + 7) = (p : Int) + 7 := wrap_i64 _ (by omega) (by omega)
  have e3 : ((p : Int) + 7).tdiv 8 = (q : Int) := by rw [Int.tdiv_eq_ediv_of_nonneg (by omega)]; omega
  have e4 : IntKind.i64.wrap (q : Int) = (q : Int) := wrap_i64 _ (by omega) (by omega)
  rw [← hq]
  have hm := may_run n w hn (by omega)
  simp [af32, hm, e0, e1, e2, e3, e4]

theorem in_done (l b e at_ u j i n l' : AV) (w : Nat) : den AP RPn lp19_0 { vars := [l, .int .i64 w, b, e, at_, u, j, i, n, l', .int .i64 w, .int .i64 w], tmps := [], store := [] } =
      some (.exit 2, { vars := [l, .int .i64 w, b, e, at_, u, j, i, n, l', .int .i64 w, .int .i64 w], tmps := [], store := [] }) := by
  rw [lp19_0, den_loop_]
  simp [bd19_0]

theorem pack0_loop (l : List Nat) (hl : l.length ≤ 65536) (b e : AV) (d : Nat) : ∀ (i : Nat) (u j x y : AV), i + d = l.length →
    ∃ u' j' x' y', den AP RPn lp19_1 { vars := [.sl .none 1 (u64s l), .int .i64 0, b, e, .int .i64 0, u, j, .int .i64 i, .int .i64 l.length, .sl .none 1 (u64s l), x, y], tmps := [], store := [] } =
      some (.exit 0, { vars := [.sl .none 1 (u64s l), .int .i64 0, b, e, .int .i64 0, u', j', .int .i64 l.length, .int .i64 l.length, .sl .none 1 (u64s l), x', y'], tmps := [], store := [] }) := by
  induction d with
  | zero =>
    intro i u j x y hi
    have : i = l.length := by omega
    subst this
    refine ⟨u, j, x, y, ?_⟩
    rw [lp19_1, den_loop_]
    simp [bd19_1]
  | succ d ih =>
    intro i u j x y hi
    have hlt : i < l.length := by omega
    have e1 : IntKind.i64.wrap ((i : Int) + 1) = (i : Int) + 1 := wrap_i64 _ (by omega) (by omega)
    obtain ⟨u', j', x', y', h1⟩ := ih (i + 1) (.int .u64 l[i]) j (.int .i64 0) (.int .i64 0) (by omega)
    refine ⟨u', j', x', y', ?_⟩
    have h2 := in_done (.sl .none 1 (u64s l)) b e (.int .i64 0) (.int .u64 l[i]) j (.int .i64 i) (.int .i64 l.length) (.sl .none 1 (u64s l)) 0
    simp only [Int.natCast_zero] at h2
    rw [← h1, lp19_1, den_loop_]
    simp [bd19_1, hlt, h2, e1]

theorem pack_put0 (l : List Nat) (h : ∀ x ∈ l, x = 0) (hl : l.length ≤ 65536) : denF AP RPn 19 [.sl .none 1 (u64s l), .int .i64 0] [] = some (.tup [.sl (.own true) 1 [], .int .i64 0], []) := by
  obtain ⟨u', j', x', y', h1⟩ := pack0_loop l hl (.sl (.own true) 1 []) (.int .i64 0) l.length 0 .undef .undef .undef .undef (by omega)
  simp only [Int.natCast_zero] at h1
  have hw : l.foldl max 0 = 0 := by
    have : ∀ (l : List Nat), (∀ x ∈ l, x = 0) → l.foldl max 0 = 0 := by
      intro l
      induction l with
      | nil => intro _; rfl
      | cons a l ih => intro h; rw [List.foldl_cons, h a (by simp)]; exact ih fun x hx => h x (by simp [hx])
    exact this l h
  have h20 := width_run l (fun x hx => by rw [h x hx]; omega) (by omega)
  rw [hw] at h20
  have h32 := size_run l.length 0 hl (by omega)
  simp at h32 h20
  rw [denF_code (fn := af19) rfl]
  simp [af19, sb19_0, h20, h32, den_scope, show ¬ (65536 < l.length) by omega, lim, h1]
end Go.VS
/- pack.Put of noughts and a one behind them. -/
namespace Go.VS

theorem bit_fact : ∀ r : Fin 8, IntKind.u8.wrap (1 * 2 ^ min r.val IntKind.u8.bits) = ((2 ^ r.val : Nat) : Int) ∧ IntKind.u8.wrap (0 * 2 ^ min r.val IntKind.u8.bits) = 0 ∧ bitsOp .u8 (fun a b => a ||| b) 0 ((2 ^ r.val : Nat) : Int) = ((2 ^ r.val : Nat) : Int) := by decide +kernel

theorem in_zero (L i : Nat) (hi : i / 8 < L) (hL : L ≤ 10000) (l e j k n l' : AV) : den AP RPn lp19_0 { vars := [l, .int .i64 1, .sl (.own true) 1 (u8s (List.replicate L 0)), e, .int .i64 i, .int .u64 0, j, k, n, l', .int .i64 0, .int .i64 1], tmps := [], store := [] } =
      some (.exit 2, { vars := [l, .int .i64 1, .sl (.own true) 1 (u8s (List.replicate L 0)), e, .int .i64 (i + 1 : Nat), .int .u64 0, .int .i64 0, k, n, l', .int .i64 1, .int .i64 1], tmps := [], store := [] }) := by
  obtain ⟨q, hq⟩ : ∃ q, q = i / 8 := ⟨_, rfl⟩
  obtain ⟨r, hr⟩ : ∃ r, r = i % 8 := ⟨_, rfl⟩
  have e1 : IntKind.i64.wrap ((i : Int) + 1) = (i : Int) + 1 := wrap_i64 _ (by omega) (by omega)
  have e2 : IntKind.i64.wrap ((i : Int) / 8) = (q : Int) := by
    rw [wrap_i64 _ (by omega) (by omega)]; omega
  have e3 : (i : Int).tmod 8 = (r : Int) := by rw [Int.tmod_eq_emod_of_nonneg (by omega)]; omega
  have e4 := (bit_fact ⟨r, by omega⟩).2.1
  simp only [Int.zero_mul] at e4
  have e6 : bitsOp .u64 (fun a b => a &&& b) 0 1 = 0 := by decide +kernel
  have e7 : bitsOp .u8 (fun a b => a ||| b) 0 0 = 0 := by decide +kernel
  have e8 : q < L := by omega
  have e9 : (u8s (List.replicate L 0)).set q (.int .u8 0) = u8s (List.replicate L 0) := by
    have := u8s_set (List.replicate L 0) q 0
    simp only [Int.natCast_zero] at this
    rw [this]
    congr 1
    apply List.ext_getElem <;> simp
  have h2 := in_done l (.sl (.own true) 1 (u8s (List.replicate L 0))) e (.int .i64 (i + 1 : Nat)) (.int .u64 0) (.int .i64 0) k n l' 1
  simp at h2
  rw [lp19_0, den_loop_]
  simp [bd19_0, e1, e2, e3, e4, e6, e7, e8, e9, show IntKind.i64.wrap 1 = 1 from rfl]
  have h3 : lp19_0 = .loop [] bd19_0 := rfl
  rw [bd19_0] at h3
  rw [← h3, h2]

theorem in_one (L i : Nat) (hi : i / 8 < L) (hL : L ≤ 10000) (l e j k n l' : AV) : den AP RPn lp19_0 { vars := [l, .int .i64 1, .sl (.own true) 1 (u8s (List.replicate L 0)), e, .int .i64 i, .int .u64 1, j, k, n, l', .int .i64 0, .int .i64 1], tmps := [], store := [] } =
      some (.exit 2, { vars := [l, .int .i64 1, .sl (.own true) 1 (u8s ((List.replicate L 0).set (i / 8) (2 ^ (i % 8)))), e, .int .i64 (i + 1 : Nat), .int .u64 1, .int .i64 0, k, n, l', .int .i64 1, .int .i64 1], tmps := [], store := [] }) := by
  obtain ⟨q, hq⟩ : ∃ q, q = i / 8 := ⟨_, rfl⟩
  obtain ⟨r, hr⟩ : ∃ r, r = i % 8 := ⟨_, rfl⟩
  obtain ⟨x, hx⟩ : ∃ x, x = 2 ^ r := ⟨_, rfl⟩
  have e1 : IntKind.i64.wrap ((i : Int) + 1) = (i : Int) + 1 := wrap_i64 _ (by omega) (by omega)
  have e2 : IntKind.i64.wrap ((i : Int) / 8) = (q : Int) := by
    rw [wrap_i64 _ (by omega) (by omega)]; omega
  have e3 : (i : Int).tmod 8 = (r : Int) := by rw [Int.tmod_eq_emod_of_nonneg (by omega)]; omega
  obtain ⟨e4, _, e7⟩ := bit_fact ⟨r, by omega⟩
  simp only [Int.one_mul, ← hx] at e4 e7
  have e6 : bitsOp .u64 (fun a b => a &&& b) 1 1 = 1 := by decide +kernel
  have e8 : q < L := by omega
  have h2 := in_done l (.sl (.own true) 1 (u8s ((List.replicate L 0).set q x))) e (.int .i64 (i + 1 : Nat)) (.int .u64 1) (.int .i64 0) k n l' 1
  simp at h2
  rw [← hq, ← hr, ← hx, lp19_0, den_loop_]
  simp [bd19_0, e1, e2, e3, e4, e6, e7, e8, show IntKind.i64.wrap 1 = 1 from rfl, show IntKind.u8.wrap 1 = 1 from rfl]
  have h3 : lp19_0 = .loop [] bd19_0 := rfl
  rw [bd19_0] at h3
  rw [← h3, h2]

theorem pack1_loop (m L : Nat) (hL : L = m / 8 + 1) (hm : m ≤ 65000) (l : List Nat) (hl : l = List.replicate m 0 ++ [1]) (e : AV) (d : Nat) : ∀ (i : Nat) (u j x y : AV), i + d = m →
    ∃ u' j' x' y', den AP RPn lp19_1 { vars := [.sl .none 1 (u64s l), .int .i64 1, .sl (.own true) 1 (u8s (List.replicate L 0)), e, .int .i64 i, u, j, .int .i64 i, .int .i64 l.length, .sl .none 1 (u64s l), x, y], tmps := [], store := [] } =
      some (.exit 0, { vars := [.sl .none 1 (u64s l), .int .i64 1, .sl (.own true) 1 (u8s ((List.replicate L 0).set (m / 8) (2 ^ (m % 8)))), e, .int .i64 l.length, u', j', .int .i64 l.length, .int .i64 l.length, .sl .none 1 (u64s l), x', y'], tmps := [], store := [] }) := by
  have hlen : l.length = m + 1 := by rw [hl]; simp
  induction d with
  | zero =>
    intro i u j x y hi
    have : i = m := by omega
    subst this
    have hlt : i < l.length := by omega
    have hg : l[i] = 1 := by subst hl; simp
    have e1 : IntKind.i64.wrap ((i : Int) + 1) = (i : Int) + 1 := wrap_i64 _ (by omega) (by omega)
    have h2 := in_one L i (by omega) (by omega) (.sl .none 1 (u64s l)) e j (.int .i64 i) (.int .i64 l.length) (.sl .none 1 (u64s l))
    refine ⟨.int .u64 1, .int .i64 0, .int .i64 1, .int .i64 1, ?_⟩
    generalize i / 8 = q at *
    generalize 2 ^ (i % 8) = z at *
    rw [lp19_1, den_loop_]
    simp [bd19_1, hlt, hg, e1, h2]
    rw [den_loop_]
    simp [hlen]
  | succ d ih =>
    intro i u j x y hi
    have hlt : i < l.length := by omega
    have him : i < m := by omega
    have hg : l[i] = 0 := by subst hl; simp [him]
    have e1 : IntKind.i64.wrap ((i : Int) + 1) = (i : Int) + 1 := wrap_i64 _ (by omega) (by omega)
    obtain ⟨u', j', x', y', h1⟩ := ih (i + 1) (.int .u64 0) (.int .i64 0) (.int .i64 1) (.int .i64 1) (by omega)
    have h2 := in_zero L i (by omega) (by omega) (.sl .none 1 (u64s l)) e j (.int .i64 i) (.int .i64 l.length) (.sl .none 1 (u64s l))
    refine ⟨u', j', x', y', ?_⟩
    rw [← h1, lp19_1, den_loop_]
    generalize m / 8 = q at *
    generalize 2 ^ (m % 8) = z at *
    simp [bd19_1, hlt, hg, e1, h2]

theorem pack_put1 (m : Nat) (hm : m ≤ 65000) : denF AP RPn 19 [.sl .none 1 (u64s (List.replicate m 0 ++ [1])), .int .i64 1] [] = some (.tup [.sl (.own true) 1 (u8s (List.replicate (m / 8) 0 ++ [2 ^ (m % 8)])), .int .i64 0], []) := by
  obtain ⟨u', j', x', y', h1⟩ := pack1_loop m (m / 8 + 1) rfl hm _ rfl (.int .i64 0) m 0 .undef .undef .undef .undef (by omega)
  simp only [Int.natCast_zero] at h1
  have hw : (List.replicate m 0 ++ [1]).foldl max 0 = 1 := by
    have : ∀ m, (List.replicate m 0).foldl max 0 = 0 := by
      intro m
      induction m with
      | zero => rfl
      | succ m ih => rw [List.replicate_succ, List.foldl_cons]; exact ih
    rw [List.foldl_append, this]; rfl
  have hlen : (List.replicate m 0 ++ [1]).length = m + 1 := by simp
  have h20 := width_run (List.replicate m 0 ++ [1]) (fun x hx => by simp at hx; omega) (by rw [hlen]; omega)
  rw [hw] at h20
  have h32 := size_run (List.replicate m 0 ++ [1]).length 1 (by rw [hlen]; omega) (by omega)
  have e32 : ((List.replicate m (0 : Nat) ++ [1]).length * 1 + 7) / 8 = m / 8 + 1 := by rw [hlen]; omega
  rw [e32] at h32
  have hset : (List.replicate (m / 8 + 1) 0).set (m / 8) (2 ^ (m % 8)) = List.replicate (m / 8) 0 ++ [2 ^ (m % 8)] := by
    rw [List.replicate_succ']
    rw [List.set_append_right _ _ (by simp)]
    simp
  rw [hset] at h1
  have hq1 : m / 8 + 1 ≤ lim := by unfold lim; omega
  generalize List.replicate (m / 8) 0 ++ [2 ^ (m % 8)] = res at *
  generalize List.replicate m 0 ++ [1] = l at *
  generalize m / 8 + 1 = L at *
  have hrep : List.replicate L (AV.int .u8 0) = u8s (List.replicate L 0) := by simp [u8s]
  simp at h20 h32
  rw [denF_code (fn := af19) rfl]
  simp [af19]
  rw [den_scope]
  simp [sb19_0, h20, h32, show ¬ (65536 < l.length) by omega, hq1, hrep, h1]
end Go.VS
/- dict.Put on DictLong's lists. -/
namespace Go.VS

/-- The law's list: m empty words, then k bytes of nought. -/
def lw (m k : Nat) : List (List UInt8) := List.replicate m [] ++ [List.replicate k 0]

theorem lw_length (m k : Nat) : (lw m k).length = m + 1 := by simp [lw]

theorem lw_any (m k : Nat) : ((lw m k).any fun s => decide (255 < s.length)) = decide (255 < k) := by
  simp [lw, List.any_append]

theorem encBytes_u8s (l : List UInt8) : l.map encByte = u8s (l.map UInt8.toNat) := by simp [u8s, encByte]

/-- The words of such a list. -/
def ww (m k : Nat) : List (List UInt8) := if k = 0 ∨ m = 0 then [List.replicate k 0] else [[], List.replicate k 0]

theorem ww_rises (m k : Nat) : (ww m k).Pairwise (· < ·) := by
  unfold ww
  split
  · simp
  · rename_i h
    have : List.replicate k (0 : UInt8) ≠ [] := by intro e; apply h; left; simpa using e
    simp only [List.pairwise_cons, List.mem_singleton, forall_eq, List.not_mem_nil, false_implies, implies_true, List.Pairwise.nil, and_true]
    obtain ⟨j, hj⟩ : ∃ j, k = j + 1 := ⟨k - 1, by omega⟩
    subst hj
    rw [List.replicate_succ]
    exact List.nil_lt_cons _ _

theorem ww_mem (m k : Nat) (s : List UInt8) : s ∈ ww m k ↔ s ∈ lw m k := by
  unfold ww lw
  by_cases hk : k = 0
  · subst hk; simp
  · by_cases hm : m = 0
    · subst hm; simp
    · simp [hk, hm]

theorem rises_ext : ∀ {a b : List (List UInt8)}, a.Pairwise (· < ·) → b.Pairwise (· < ·) → (∀ s, s ∈ a ↔ s ∈ b) → a = b := by
  intro a b ha hb h
  have nd : ∀ {l : List (List UInt8)}, l.Pairwise (· < ·) → l.Nodup := fun h => h.imp (fun {x y} hxy e => by subst e; exact List.lt_irrefl _ hxy)
  exact List.Perm.eq_of_pairwise (le := (· ≤ ·)) (fun a b _ _ => List.le_antisymm) (ha.imp List.le_of_lt) (hb.imp List.le_of_lt) ((List.perm_ext_iff_of_nodup (nd ha) (nd hb)).2 h)

theorem lw_words (m k : Nat) : wordsOf (lw m k) = ww m k :=
  rises_ext (wordsOf_rises _) (ww_rises m k) fun s => by rw [mem_wordsOf, ww_mem]

/-- The last word's place. -/
def cc (m k : Nat) : Nat := if k = 0 ∨ m = 0 then 0 else 1

theorem lw_places (m k : Nat) : (lw m k).map (idx (ww m k)) = List.replicate m 0 ++ [cc m k] := by
  unfold lw ww cc
  by_cases hk : k = 0
  · subst hk; simp [idx, List.findIdx_cons]
  · by_cases hm : m = 0
    · subst hm; simp [idx, List.findIdx_cons]
    · have h0 : (([] : List UInt8) == List.replicate k 0) = false := by
        obtain ⟨j, hj⟩ : ∃ j, k = j + 1 := ⟨k - 1, by omega⟩
        subst hj; rfl
      simp [hk, hm, idx, List.findIdx_cons, h0]

/-- Words in bytes. -/
def wordsB : List (List UInt8) → List Nat
  | [] => []
  | s :: r => numB s.length ++ s.map UInt8.toNat ++ wordsB r

theorem numB_len (u : Nat) (h : u < 16384) : (numB u).length ≤ 2 := by
  by_cases h1 : u < 128
  · rw [numB_small h1]; simp
  · rw [numB_great h1, numB_small (by omega)]; simp

theorem words_put (w : List (List UInt8)) (hw : ∀ s ∈ w, s.length ≤ 255) (hl : w.length ≤ 2) (l e v4 v5 : AV) (o : Bool) (d : Nat) : ∀ (i : Nat) (pre : List Nat) (x : AV), i + d = w.length → pre.length ≤ 10 + i * 300 →
    ∃ x', den AP RPn lp9_0 { vars := [l, .sl (.own false) 1 (u8s pre), e, .sl (.own false) 1 (strs w), v4, v5, x, .int .i64 i, .int .i64 w.length, .sl .none 1 (strs w)], tmps := [], store := [] } =
      some (.exit 0, { vars := [l, .sl (.own false) 1 (u8s (pre ++ wordsB (w.drop i))), e, .sl (.own false) 1 (strs w), v4, v5, x', .int .i64 w.length, .int .i64 w.length, .sl .none 1 (strs w)], tmps := [], store := [] }) := by
  induction d with
  | zero =>
    intro i pre x hi hp
    have : i = w.length := by omega
    subst this
    refine ⟨x, ?_⟩
    rw [lp9_0, den_loop_]
    simp [bd9_0, wordsB]
  | succ d ih =>
    intro i pre x hi hp
    have hlt : i < w.length := by omega
    have hs := hw w[i] (List.getElem_mem hlt)
    have hn := numB_len w[i].length (by omega)
    have e1 : IntKind.i64.wrap ((i : Int) + 1) = (i : Int) + 1 := wrap_i64 _ (by omega) (by omega)
    have e2 : IntKind.u64.wrap ((w[i].length : Nat) : Int) = ((w[i].length : Nat) : Int) := wrap_u64 _ (by omega) (by omega)
    have h18 := numput_run pre w[i].length (by omega) (by omega)
    obtain ⟨x', h1⟩ := ih (i + 1) (pre ++ numB w[i].length ++ w[i].map UInt8.toNat) (.str w[i]) (by omega) (by simp; omega)
    refine ⟨x', ?_⟩
    have e3 : pre.length + (numB w[i].length).length + w[i].length ≤ lim := by unfold lim; omega
    rw [List.drop_eq_getElem_cons hlt, wordsB, show pre ++ (numB w[i].length ++ w[i].map UInt8.toNat ++ wordsB (w.drop (i + 1))) = pre ++ numB w[i].length ++ w[i].map UInt8.toNat ++ wordsB (w.drop (i + 1)) by simp, ← h1, lp9_0, den_loop_]
    simp [bd9_0, hlt, e1, e2, h18, encBytes_u8s, e3]

end Go.VS
/- dict.Put on DictLong's lists: the bytes, or why not. -/
namespace Go.VS

def packB (m c : Nat) : List Nat := if c = 0 then [] else List.replicate (m / 8) 0 ++ [2 ^ (m % 8)]

/-- The bytes that dict.Put tells. -/
def dictB (m k : Nat) : List Nat := numB (ww m k).length ++ wordsB (ww m k) ++ [cc m k] ++ packB m (cc m k)

theorem cc_le (m k : Nat) : cc m k ≤ 1 := by unfold cc; split <;> omega

theorem at_max (m k : Nat) : (List.replicate m 0 ++ [cc m k]).foldl max 0 = cc m k := by
  have : ∀ m, (List.replicate m 0).foldl max 0 = 0 := by
    intro m
    induction m with
    | zero => rfl
    | succ m ih => rw [List.replicate_succ, List.foldl_cons]; exact ih
  rw [List.foldl_append, this]; simp

theorem at_pack (m k : Nat) (hm : m ≤ 4096) : denF AP RPn 19 [.sl .none 1 (u64s (List.replicate m 0 ++ [cc m k])), .int .i64 (cc m k)] [] = some (.tup [.sl (.own true) 1 (u8s (packB m (cc m k))), .int .i64 0], []) := by
  unfold packB
  have h := cc_le m k
  generalize cc m k = c at *
  have : c = 0 ∨ c = 1 := by omega
  rcases this with rfl | rfl
  · have := pack_put0 (List.replicate m 0 ++ [0]) (fun x hx => by simp at hx; omega) (by simp; omega)
    simpa using this
  · have := pack_put1 m (by omega)
    simpa using this

theorem ww_len (m k : Nat) : (ww m k).length ≤ 2 ∧ 1 ≤ (ww m k).length := by unfold ww; split <;> simp
theorem ww_small (m k : Nat) (hk : k ≤ 255) : ∀ s ∈ ww m k, s.length ≤ 255 := by
  intro s hs
  rw [ww_mem] at hs
  simp only [lw, List.mem_append, List.mem_replicate, List.mem_singleton] at hs
  rcases hs with ⟨_, rfl⟩ | rfl
  · simp
  · simpa using hk

theorem wordsB_len : ∀ (w : List (List UInt8)), (∀ s ∈ w, s.length ≤ 255) → (wordsB w).length ≤ 300 * w.length
  | [], _ => by simp [wordsB]
  | s :: w, h => by
    have h1 := h s (by simp)
    have h2 := numB_len s.length (by omega)
    have h3 := wordsB_len w fun x hx => h x (by simp [hx])
    simp only [wordsB, List.length_append, List.length_map, List.length_cons]
    omega

theorem dictput_run (m k : Nat) (hm : m ≤ 4095) (hk : k ≤ 255) : denF AP RPn 9 [.sl .none 1 (strs (lw m k))] [] = some (.tup [.sl (.own false) 1 (u8s (dictB m k)), .int .i64 0], []) := by
  have hlen := lw_length m k
  have hany := lw_any m k
  have h16 := contains_run (lw m k) (by omega)
  have h7 := build_run (lw m k) (by omega)
  rw [lw_words, lw_places] at h7
  rw [hany, decide_eq_false (by omega)] at h16
  have hww := ww_len m k
  have h18 := numput_nil (ww m k).length (by omega) (by omega)
  have h20 := width_run (List.replicate m 0 ++ [cc m k]) (fun x hx => by have := cc_le m k; simp at hx; omega) (by simp; omega)
  rw [at_max] at h20
  have h19 := at_pack m k (by omega)
  obtain ⟨x', hloop⟩ := words_put (ww m k) (ww_small m k hk) hww.1 (.sl .none 1 (strs (lw m k))) (.int .i64 0) (.sl (.own false) 1 (u64s (List.replicate m 0 ++ [cc m k]))) (.sl (.own false) 1 []) false (ww m k).length 0 (numB (ww m k).length) .undef (by omega) (by have := numB_len (ww m k).length (by omega); omega)
  simp only [Int.natCast_zero, List.drop_zero] at hloop
  have hwb := wordsB_len (ww m k) (ww_small m k hk)
  have hnb := numB_len (ww m k).length (by omega)
  have hpb : (packB m (cc m k)).length ≤ 600 := by unfold packB; split <;> simp <;> omega
  have hcc := cc_le m k
  have e1 : IntKind.u64.wrap (((ww m k).length : Nat) : Int) = (((ww m k).length : Nat) : Int) := wrap_u64 _ (by omega) (by omega)
  have e2 : IntKind.u8.wrap ((cc m k : Nat) : Int) = ((cc m k : Nat) : Int) := wrap_u8 _ (by omega) (by omega)
  unfold dictB
  generalize List.replicate m 0 ++ [cc m k] = at_ at *
  generalize cc m k = c at *
  generalize packB m c = pb at *
  generalize ww m k = w at *
  generalize lw m k = l at *
  generalize numB w.length = nb at *
  generalize wordsB w = wb at *
  have e3 : nb.length + wb.length + 1 ≤ lim := by unfold lim; omega
  have e4 : nb.length + (wb.length + 1) + pb.length ≤ lim := by unfold lim; omega
  rw [denF_code (fn := af9) rfl]
  simp [af9]
  rw [den_scope]
  simp [sb9_0, show ¬ (4096 < l.length) by omega, h16, h7, h18, e1, hloop, h20, h19, e2, e3, e4]

theorem dictput_no (m k : Nat) (hm : m ≤ 100000) (h : 255 < k ∨ 4096 < m + 1) : denF AP RPn 9 [.sl .none 1 (strs (lw m k))] [] = some (.tup [.sl (.own false) 1 [], .int .i64 4], []) := by
  have hlen := lw_length m k
  have hany := lw_any m k
  have h16 := contains_run (lw m k) (by omega)
  rw [hany] at h16
  generalize lw m k = l at *
  rw [denF_code (fn := af9) rfl]
  by_cases h1 : 4096 < m + 1
  · simp [af9]
    rw [den_scope]
    simp [sb9_0, show 4096 < l.length by omega]
    rw [den_scope]
    simp
  · have h2 : 255 < k := by omega
    rw [decide_eq_true h2] at h16
    simp [af9]
    rw [den_scope]
    simp [sb9_0, show ¬ (4096 < l.length) by omega, h16]
    rw [den_scope]
    simp
end Go.VS
