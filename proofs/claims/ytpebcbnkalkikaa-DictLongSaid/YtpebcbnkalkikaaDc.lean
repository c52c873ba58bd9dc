/- num.Get and word on what DictLong needs. -/
import Derived.Test.YtpebcbnkalkikaaDb
namespace Go.VS

theorem and127 : ∀ x : Fin 256, bitsOp .u8 (fun a b => a &&& b) (x.val : Int) 127 = ((x.val % 128 : Nat) : Int) := by decide +kernel
theorem shl0 : ∀ x : Fin 128, IntKind.u64.wrap ((x.val : Int) * 2 ^ min 0 IntKind.u64.bits) = (x.val : Int) ∧ bitsOp .u64 (fun a b => a ||| b) 0 (x.val : Int) = (x.val : Int) ∧ IntKind.u64.wrap (x.val : Int) = (x.val : Int) ∧ bitsOp .u64 (fun a b => a ||| b) (x.val : Int) 128 = ((x.val + 128 : Nat) : Int) := by decide +kernel

theorem get_small (b : List Nat) (p u : Nat) (hu : u < 128) (h : b[p]? = some u) (hb : b.length ≤ 100000) : denF AP RPn 21 [.sl .none 1 (u8s b), .int .i64 p] [] = some (.tup [.int .u64 u, .int .i64 1, .int .i64 0], []) := by
  obtain ⟨hp, hg⟩ := List.getElem?_eq_some_iff.1 h
  have e1 : IntKind.i64.wrap ((b.length : Int) - p) = (b.length : Int) - p := wrap_i64 _ (by omega) (by omega)
  have e2 : ¬ ((0 : Int) = (b.length : Int) - p) := by omega
  have e3 : IntKind.i64.wrap (p : Int) = (p : Int) := wrap_i64 _ (by omega) (by omega)
  have e4 := and127 ⟨u, by omega⟩
  simp only [show u % 128 = u by omega] at e4
  obtain ⟨_, e6, e7, _⟩ := shl0 ⟨u, hu⟩
  simp only at e6 e7
  rw [denF_code (fn := af21) rfl]
  simp [af21]
  rw [den_scope]
  simp [sb21_0, show ¬ (b.length < p) by omega, e1, e2, e3, hp, hg, e4, e6, e7, show IntKind.i64.wrap 0 = 0 from rfl, show IntKind.i64.wrap 1 = 1 from rfl, show ¬ (128 ≤ u) by omega]
  by_cases h0 : u = 0
  · simp [h0]
  · simp [h0, show 0 < u by omega]

def k21 : AC := match findL sb21_0 1 with | some r => r | none => .skip
theorem k21_eq : findL sb21_0 1 = some k21 := rfl

theorem get_two (b : List Nat) (p u : Nat) (h1 : 128 ≤ u) (h2 : u < 256) (h : b[p]? = some u) (h' : b[p + 1]? = some 1) (hb : b.length ≤ 100000) : denF AP RPn 21 [.sl .none 1 (u8s b), .int .i64 p] [] = some (.tup [.int .u64 u, .int .i64 2, .int .i64 0], []) := by
  obtain ⟨hp, hg⟩ := List.getElem?_eq_some_iff.1 h
  obtain ⟨hp', hg'⟩ := List.getElem?_eq_some_iff.1 h'
  have e1 : IntKind.i64.wrap ((b.length : Int) - p) = (b.length : Int) - p := wrap_i64 _ (by omega) (by omega)
  have e2 : ¬ ((0 : Int) = (b.length : Int) - p) := by omega
  have e2' : ¬ ((1 : Int) = (b.length : Int) - p) := by omega
  have e3 : IntKind.i64.wrap (p : Int) = (p : Int) := wrap_i64 _ (by omega) (by omega)
  have e3' : IntKind.i64.wrap ((p : Int) + 1) = ((p + 1 : Nat) : Int) := wrap_i64 _ (by omega) (by omega)
  have e3t : ((p : Int) + 1).toNat = p + 1 := by omega
  have e3z : (0 : Int) ≤ (p : Int) + 1 := by omega
  obtain ⟨v, hv⟩ : ∃ v, v = u - 128 := ⟨_, rfl⟩
  have e4 := and127 ⟨u, by omega⟩
  simp only [show u % 128 = v by omega] at e4
  obtain ⟨_, e6, e7, e8⟩ := shl0 ⟨v, by omega⟩
  simp only at e6 e7 e8
  rw [show v + 128 = u by omega] at e8
  have f4 : bitsOp .u8 (fun a b => a &&& b) 1 127 = 1 := by decide +kernel
  have f5 : IntKind.u64.wrap (1 * 2 ^ min 7 IntKind.u64.bits) = 128 := by decide +kernel
  simp only [Int.one_mul] at f5
  have a1 : den AP RPn sb21_0 { vars := [.sl .none 1 (u8s b), .int .i64 p, .int .u64 0, .int .i64 0, .int .i64 0, .undef], tmps := [], store := [] } =
      some (.goto 1, { vars := [.sl .none 1 (u8s b), .int .i64 p, .int .u64 v, .int .i64 1, .int .i64 0, .int .u8 u], tmps := [], store := [] }) := by
    simp [sb21_0, show ¬ (b.length < p) by omega, e1, e2, e3, hp, hg, e4, e6, e7, show IntKind.i64.wrap 0 = 0 from rfl, show IntKind.i64.wrap 1 = 1 from rfl, h1]
  have a2 : den AP RPn k21 { vars := [.sl .none 1 (u8s b), .int .i64 p, .int .u64 v, .int .i64 1, .int .i64 0, .int .u8 u], tmps := [], store := [] } =
      some (.ret, { vars := [.sl .none 1 (u8s b), .int .i64 p, .int .u64 u, .int .i64 2, .int .i64 0, .int .u8 1], tmps := [], store := [] }) := by
    simp [k21, sb21_0, e1, e2', e3', e3t, e3z, hp', hg', f4, f5, e8, show IntKind.i64.wrap 7 = 7 from rfl, show IntKind.u64.wrap 1 = 1 from rfl, show IntKind.i64.wrap 2 = 2 from rfl]
  rw [denF_code (fn := af21) rfl]
  simp [af21]
  rw [den_scope_goto a1 k21_eq, killV, den_scope_ret a2]
  simp
end Go.VS
/- word on what DictLong needs. -/
namespace Go.VS

theorem numB_le255 {u : Nat} (hu : u ≤ 255) : numB u = if u < 128 then [u] else [u, 1] := by
  by_cases h : u < 128
  · rw [numB_small h, if_pos h]
  · rw [numB_great h, if_neg h, show u / 128 = 1 by omega, numB_small (by omega), show u % 128 + 128 = u by omega]

theorem getnum (b : List Nat) (p u : Nat) (pre rest : List Nat) (hb : b = pre ++ (numB u ++ rest)) (hp : pre.length = p) (hu : u ≤ 255) (hl : b.length ≤ 100000) :
    denF AP RPn 21 [.sl .none 1 (u8s b), .int .i64 p] [] = some (.tup [.int .u64 u, .int .i64 (numB u).length, .int .i64 0], []) := by
  rw [numB_le255 hu] at hb ⊢
  subst hp
  by_cases h : u < 128
  · rw [if_pos h] at hb ⊢
    exact get_small b pre.length u h (by rw [hb]; simp) hl
  · rw [if_neg h] at hb ⊢
    exact get_two b pre.length u (by omega) (by omega) (by rw [hb]; simp) (by rw [hb, List.getElem?_append_right (by omega)]; simp [show pre.length + 1 - pre.length = 1 by omega]) hl

theorem decBytes_u8s : ∀ s : List UInt8, decBytes (u8s (s.map UInt8.toNat)) = some s
  | [] => rfl
  | x :: s => by
    have := decBytes_u8s s
    simp only [u8s, List.map_cons, decBytes, decByte] at this ⊢
    rw [this]
    simp

@[simp] theorem u8s_drop (l : List Nat) (n : Nat) : (u8s l).drop n = u8s (l.drop n) := by simp [u8s]
@[simp] theorem u8s_take (l : List Nat) (n : Nat) : (u8s l).take n = u8s (l.take n) := by simp [u8s]

theorem word_run (b : List Nat) (p : Nat) (s : List UInt8) (pre rest : List Nat) (hb : b = pre ++ (numB s.length ++ (s.map UInt8.toNat ++ rest))) (hp : pre.length = p) (hu : s.length ≤ 255) (hl : b.length ≤ 100000) :
    denF AP RPn 22 [.sl .none 1 (u8s b), .int .i64 p] [] = some (.tup [.str s, .int .i64 ((numB s.length).length + s.length : Nat), .int .i64 0], []) := by
  have hget := getnum b p s.length pre (s.map UInt8.toNat ++ rest) hb hp hu hl
  have hnb := numB_len s.length (by omega)
  obtain ⟨n, hn⟩ : ∃ n, n = (numB s.length).length := ⟨_, rfl⟩
  have hbl : b.length = p + n + s.length + rest.length := by rw [hb, hn, ← hp]; simp; omega
  have hsl : (b.drop (p + n)).take s.length = s.map UInt8.toNat := by
    rw [hb, ← hp, hn, ← List.append_assoc, List.drop_append_of_le_length (by simp)]
    rw [List.drop_of_length_le (by simp)]
    simp
  have hdec := decBytes_u8s s
  rw [← hn] at hget hnb ⊢
  have e1 : IntKind.i64.wrap ((b.length : Int) - p) = (b.length : Int) - p := wrap_i64 _ (by omega) (by omega)
  have e2 : IntKind.i64.wrap ((b.length : Int) - p - n) = (b.length : Int) - p - n := wrap_i64 _ (by omega) (by omega)
  have e3 : IntKind.i64.wrap (s.length : Int) = (s.length : Int) := wrap_i64 _ (by omega) (by omega)
  have e4 : ¬ ((b.length : Int) - p - n < s.length) := by omega
  have e5 : IntKind.i64.wrap ((p : Int) + n) = ((p + n : Nat) : Int) := wrap_i64 _ (by omega) (by omega)
  have e6 : IntKind.i64.wrap (((p + n : Nat) : Int) + s.length) = ((p + n + s.length : Nat) : Int) := wrap_i64 _ (by omega) (by omega)
  have e7 : IntKind.i64.wrap ((n : Int) + s.length) = (n : Int) + s.length := wrap_i64 _ (by omega) (by omega)
  obtain ⟨lo, hlo⟩ : ∃ lo, lo = p + n := ⟨_, rfl⟩
  obtain ⟨hi, hhi⟩ : ∃ hi, hi = lo + s.length := ⟨_, rfl⟩
  rw [← hlo] at hsl e5 e6
  rw [← hhi] at e6
  have hsub : hi - lo = s.length := by omega
  rw [denF_code (fn := af22) rfl]
  simp [af22, hget, show ¬ (255 < s.length) by omega, e1, e2, e3, e4, e5, e6, e7, show lo ≤ hi by omega, show hi ≤ b.length by omega, hsub, hsl, hdec]
end Go.VS
/- pack.Get of what pack.Put told. -/
namespace Go.VS

theorem bitfact2 : ∀ s r : Fin 8, bitsOp .u8 (fun a b => a &&& b) ((((2 ^ s.val : Nat) : Int)).fdiv (2 ^ min r.val IntKind.u8.bits)) 1 = if r.val = s.val then 1 else 0 := by decide +kernel
theorem bitfact3 : ∀ r : Fin 8, bitsOp .u8 (fun a b => a &&& b) (((0 : Nat) : Int).fdiv (2 ^ min r.val IntKind.u8.bits)) 1 = 0 := by decide +kernel

def pk (m : Nat) : List Nat := List.replicate (m / 8) 0 ++ [2 ^ (m % 8)]
theorem pk_len (m : Nat) : (pk m).length = m / 8 + 1 := by simp [pk]

theorem getbit (m j : Nat) (hj : j < 8 * (m / 8 + 1)) : ∃ x, (pk m)[j / 8]? = some x ∧ bitsOp .u8 (fun a b => a &&& b) ((x : Int).fdiv (2 ^ min (j % 8) IntKind.u8.bits)) 1 = if j = m then 1 else 0 := by
  by_cases h : j / 8 < m / 8
  · refine ⟨0, ?_, ?_⟩
    · unfold pk
      rw [List.getElem?_append_left (by simpa using h)]
      simp [h]
    · have := bitfact3 ⟨j % 8, by omega⟩
      simp only at this
      rw [this, if_neg (by omega)]
  · have he : j / 8 = m / 8 := by omega
    refine ⟨2 ^ (m % 8), ?_, ?_⟩
    · unfold pk
      rw [he, List.getElem?_append_right (by simp)]
      simp
    · have := bitfact2 ⟨m % 8, by omega⟩ ⟨j % 8, by omega⟩
      simp only at this
      rw [this]
      by_cases hjm : j = m
      · subst hjm; simp
      · rw [if_neg hjm, if_neg (by omega)]

theorem gin_done (b n l e at_ u i k n' : AV) (w : Nat) : den AP RPn lp23_1 { vars := [b, n, .int .i64 w, l, e, at_, u, i, k, n', .int .i64 w, .int .i64 w], tmps := [], store := [] } =
      some (.exit 2, { vars := [b, n, .int .i64 w, l, e, at_, u, i, k, n', .int .i64 w, .int .i64 w], tmps := [], store := [] }) := by
  rw [lp23_1, den_loop_]
  simp [bd23_1]

theorem gin_one (m j bit : Nat) (hb1 : bit ≤ 1) (hj : j < 8 * (m / 8 + 1)) (hm : m ≤ 65000) (hbit : (if j = m then (1 : Int) else 0) = (bit : Int)) (n l e i k n' : AV) :
    den AP RPn lp23_1 { vars := [.sl .none 1 (u8s (pk m)), n, .int .i64 1, l, e, .int .i64 j, .int .u64 0, i, k, n', .int .i64 0, .int .i64 1], tmps := [], store := [] } =
      some (.exit 2, { vars := [.sl .none 1 (u8s (pk m)), n, .int .i64 1, l, e, .int .i64 (j + 1 : Nat), .int .u64 bit, .int .i64 0, k, n', .int .i64 1, .int .i64 1], tmps := [], store := [] }) := by
  obtain ⟨x, hx, hf⟩ := getbit m j hj
  rw [hbit] at hf
  obtain ⟨q, hq⟩ : ∃ q, q = j / 8 := ⟨_, rfl⟩
  obtain ⟨r, hr⟩ : ∃ r, r = j % 8 := ⟨_, rfl⟩
  rw [← hq] at hx
  rw [← hr] at hf
  obtain ⟨hql, hqx⟩ := List.getElem?_eq_some_iff.1 hx
  have e1 : IntKind.i64.wrap ((j : Int) + 1) = (j : Int) + 1 := wrap_i64 _ (by omega) (by omega)
  have e2 : IntKind.i64.wrap ((j : Int) / 8) = (q : Int) := by
    rw [wrap_i64 _ (by omega) (by omega)]; omega
  have e3 : (j : Int).tmod 8 = (r : Int) := by rw [Int.tmod_eq_emod_of_nonneg (by omega)]; omega
  obtain ⟨_, e6, e7, _⟩ := shl0 ⟨bit, by omega⟩
  simp only at e6 e7
  have h2 := gin_done (.sl .none 1 (u8s (pk m))) n l e (.int .i64 (j + 1 : Nat)) (.int .u64 bit) (.int .i64 0) k n' 1
  simp at h2
  have h3 : lp23_1 = .loop [] bd23_1 := rfl
  rw [lp23_1, den_loop_]
  simp [bd23_1, e1, e2, e3, hql, hqx, hf, e6, e7, show IntKind.i64.wrap 1 = 1 from rfl]
  rw [bd23_1] at h3
  rw [← h3, h2]
end Go.VS
/- pack.Get of what pack.Put told, continued. -/
namespace Go.VS

@[simp] theorem u64s_zero (l : List Nat) : u64s l ++ [.int .u64 0] = u64s (l ++ [0]) := by simp [u64s]
@[simp] theorem u64s_one (l : List Nat) : u64s l ++ [.int .u64 1] = u64s (l ++ [1]) := by simp [u64s]

theorem get1_loop (m : Nat) (hm : m ≤ 65000) (e : AV) (d : Nat) : ∀ (j : Nat) (u i x y : AV), j + d = m →
    ∃ u' i' x' y', den AP RPn lp23_2 { vars := [.sl .none 1 (u8s (pk m)), .int .i64 (m + 1 : Nat), .int .i64 1, .sl (.own false) 1 (u64s (List.replicate j 0)), e, .int .i64 j, u, i, .int .i64 j, .int .i64 (m + 1 : Nat), x, y], tmps := [], store := [] } =
      some (.exit 0, { vars := [.sl .none 1 (u8s (pk m)), .int .i64 (m + 1 : Nat), .int .i64 1, .sl (.own false) 1 (u64s (List.replicate m 0 ++ [1])), e, .int .i64 (m + 1 : Nat), u', i', .int .i64 (m + 1 : Nat), .int .i64 (m + 1 : Nat), x', y'], tmps := [], store := [] }) := by
  induction d with
  | zero =>
    intro j u i x y hj
    have : j = m := by omega
    subst this
    have e1 : IntKind.i64.wrap ((j : Int) + 1) = (j : Int) + 1 := wrap_i64 _ (by omega) (by omega)
    have h2 := gin_one j j 1 (by omega) (by omega) hm (by simp) (.int .i64 (j + 1 : Nat)) (.sl (.own false) 1 (u64s (List.replicate j 0))) e i (.int .i64 j) (.int .i64 (j + 1 : Nat))
    refine ⟨.int .u64 1, .int .i64 0, .int .i64 1, .int .i64 1, ?_⟩
    have e4 : j + 1 ≤ lim := by unfold lim; omega
    obtain ⟨n, hn⟩ : ∃ n, n = j + 1 := ⟨_, rfl⟩
    have e1' : IntKind.i64.wrap ((j : Int) + 1) = (n : Int) := by rw [e1]; omega
    rw [← hn] at h2 ⊢
    rw [lp23_2, den_loop_]
    simp [bd23_2, show j < n by omega, h2, e1', e4]
    rw [den_loop_]
    simp
  | succ d ih =>
    intro j u i x y hj
    have e1 : IntKind.i64.wrap ((j : Int) + 1) = (j : Int) + 1 := wrap_i64 _ (by omega) (by omega)
    have h2 := gin_one m j 0 (by omega) (by omega) hm (by rw [if_neg (by omega)]; rfl) (.int .i64 (m + 1 : Nat)) (.sl (.own false) 1 (u64s (List.replicate j 0))) e i (.int .i64 j) (.int .i64 (m + 1 : Nat))
    obtain ⟨u', i', x', y', h1⟩ := ih (j + 1) (.int .u64 0) (.int .i64 0) (.int .i64 1) (.int .i64 1) (by omega)
    refine ⟨u', i', x', y', ?_⟩
    have e4 : j + 1 ≤ lim := by unfold lim; omega
    rw [← h1, List.replicate_succ', lp23_2, den_loop_]
    generalize hn : m + 1 = n at *
    simp only [Int.natCast_zero] at h2
    simp [bd23_2, show j < n by omega, h2, e1, e4]

theorem get0_loop (n : Nat) (hn : n ≤ 65000) (b e : AV) (d : Nat) : ∀ (j : Nat) (u i x y : AV), j + d = n →
    ∃ u' i' x' y', den AP RPn lp23_2 { vars := [b, .int .i64 n, .int .i64 0, .sl (.own false) 1 (u64s (List.replicate j 0)), e, .int .i64 0, u, i, .int .i64 j, .int .i64 n, x, y], tmps := [], store := [] } =
      some (.exit 0, { vars := [b, .int .i64 n, .int .i64 0, .sl (.own false) 1 (u64s (List.replicate n 0)), e, .int .i64 0, u', i', .int .i64 n, .int .i64 n, x', y'], tmps := [], store := [] }) := by
  induction d with
  | zero =>
    intro j u i x y hj
    have : j = n := by omega
    subst this
    refine ⟨u, i, x, y, ?_⟩
    rw [lp23_2, den_loop_]
    simp [bd23_2]
  | succ d ih =>
    intro j u i x y hj
    have e1 : IntKind.i64.wrap ((j : Int) + 1) = (j : Int) + 1 := wrap_i64 _ (by omega) (by omega)
    have h2 := gin_done b (.int .i64 n) (.sl (.own false) 1 (u64s (List.replicate j 0))) e (.int .i64 0) (.int .u64 0) i (.int .i64 j) (.int .i64 n) 0
    simp only [Int.natCast_zero] at h2
    obtain ⟨u', i', x', y', h1⟩ := ih (j + 1) (.int .u64 0) i (.int .i64 0) (.int .i64 0) (by omega)
    refine ⟨u', i', x', y', ?_⟩
    have e4 : j + 1 ≤ lim := by unfold lim; omega
    rw [← h1, List.replicate_succ', lp23_2, den_loop_]
    simp [bd23_2, show j < n by omega, h2, e1, e4]

theorem tail_loop (m : Nat) (hm : m ≤ 65000) (n w l e u i k n' x y : AV) (d : Nat) : ∀ (j : Nat), j + d = 8 * (m / 8 + 1) → m < j →
    den AP RPn lp23_0 { vars := [.sl .none 1 (u8s (pk m)), n, w, l, e, .int .i64 j, u, i, k, n', x, y], tmps := [], store := [] } =
      some (.exit 4, { vars := [.sl .none 1 (u8s (pk m)), n, w, l, e, .int .i64 (8 * (m / 8 + 1) : Nat), u, i, k, n', x, y], tmps := [], store := [] }) := by
  have e0 : IntKind.i64.wrap (8 * ((pk m).length : Int)) = ((8 * (m / 8 + 1) : Nat) : Int) := by
    rw [pk_len, wrap_i64 _ (by omega) (by omega)]; omega
  obtain ⟨N, hN⟩ : ∃ N, N = 8 * (m / 8 + 1) := ⟨_, rfl⟩
  induction d with
  | zero =>
    intro j hj hmj
    have : j = N := by omega
    subst this
    rw [← hN] at e0 ⊢
    rw [lp23_0, den_loop_]
    simp [bd23_0, e0]
  | succ d ih =>
    intro j hj hmj
    have h1 := ih (j + 1) (by omega) (by omega)
    obtain ⟨x', hx, hf⟩ := getbit m j (by omega)
    rw [if_neg (by omega)] at hf
    rw [← hN] at e0 h1 ⊢
    obtain ⟨q, hq⟩ : ∃ q, q = j / 8 := ⟨_, rfl⟩
    obtain ⟨r, hr⟩ : ∃ r, r = j % 8 := ⟨_, rfl⟩
    rw [← hq] at hx
    rw [← hr] at hf
    obtain ⟨hql, hqx⟩ := List.getElem?_eq_some_iff.1 hx
    have e1 : IntKind.i64.wrap ((j : Int) + 1) = (j : Int) + 1 := wrap_i64 _ (by omega) (by omega)
    have e2 : IntKind.i64.wrap ((j : Int) / 8) = (q : Int) := by
      rw [wrap_i64 _ (by omega) (by omega)]; omega
    have e3 : (j : Int).tmod 8 = (r : Int) := by rw [Int.tmod_eq_emod_of_nonneg (by omega)]; omega
    rw [← h1, lp23_0, den_loop_]
    simp [bd23_0, e0, e1, e2, e3, hql, hqx, hf, show j < N by omega]
end Go.VS
/- pack.Get of what pack.Put told: whole. Contains of bools. -/
namespace Go.VS

theorem packget0 (n : Nat) (hn : n ≤ 65000) : denF AP RPn 23 [.sl .none 1 [], .int .i64 n, .int .i64 0] [] = some (.tup [.sl (.own false) 1 (u64s (List.replicate n 0)), .int .i64 0], []) := by
  obtain ⟨u', i', x', y', h1⟩ := get0_loop n hn (.sl .none 1 []) (.int .i64 0) n 0 .undef .undef .undef .undef (by omega)
  simp only [Int.natCast_zero, List.replicate_zero, u64s_nil'] at h1
  have h34 := may_run n 0 (by omega) (by omega)
  have h32 := size_run n 0 (by omega) (by omega)
  simp only [Int.natCast_zero, Nat.mul_zero, Nat.zero_add, show 7 / 8 = 0 from rfl] at h34 h32
  have htail : den AP RPn lp23_0 { vars := [.sl .none 1 [], .int .i64 n, .int .i64 0, .sl (.own false) 1 (u64s (List.replicate n 0)), .int .i64 0, .int .i64 0, u', i', .int .i64 n, .int .i64 n, x', y'], tmps := [], store := [] } =
      some (.exit 4, { vars := [.sl .none 1 [], .int .i64 n, .int .i64 0, .sl (.own false) 1 (u64s (List.replicate n 0)), .int .i64 0, .int .i64 0, u', i', .int .i64 n, .int .i64 n, x', y'], tmps := [], store := [] }) := by
    rw [lp23_0, den_loop_]
    simp [bd23_0, show IntKind.i64.wrap 0 = 0 from rfl]
  have a1 : den AP RPn sb23_0 { vars := [.sl .none 1 [], .int .i64 n, .int .i64 0, .sl (.own false) 1 [], .int .i64 0, .undef, .undef, .undef, .undef, .undef, .undef, .undef], tmps := [], store := [] } =
      some (.ret, { vars := [.sl .none 1 [], .int .i64 n, .int .i64 0, .sl (.own false) 1 (u64s (List.replicate n 0)), .int .i64 0, .int .i64 0, u', i', .int .i64 n, .int .i64 n, x', y'], tmps := [], store := [] }) := by
    simp [sb23_0, h34, h32, h1, htail]
  rw [denF_code (fn := af23) rfl]
  simp [af23]
  rw [den_scope_ret a1]
  simp

theorem packget1 (m : Nat) (hm : m ≤ 64000) : denF AP RPn 23 [.sl .none 1 (u8s (pk m)), .int .i64 (m + 1 : Nat), .int .i64 1] [] = some (.tup [.sl (.own false) 1 (u64s (List.replicate m 0 ++ [1])), .int .i64 0], []) := by
  obtain ⟨u', i', x', y', h1⟩ := get1_loop m (by omega) (.int .i64 0) m 0 .undef .undef .undef .undef (by omega)
  simp only [Int.natCast_zero, List.replicate_zero, u64s_nil'] at h1
  have h34 := may_run (m + 1) 1 (by omega) (by omega)
  have h32 := size_run (m + 1) 1 (by omega) (by omega)
  have hlen := pk_len m
  rw [show ((m + 1) * 1 + 7) / 8 = (pk m).length by rw [hlen]; omega] at h32
  have htail := tail_loop m (by omega) (.int .i64 (m + 1 : Nat)) (.int .i64 1) (.sl (.own false) 1 (u64s (List.replicate m 0 ++ [1]))) (.int .i64 0) u' i' (.int .i64 (m + 1 : Nat)) (.int .i64 (m + 1 : Nat)) x' y' (8 * (m / 8 + 1) - (m + 1)) (m + 1) (by omega) (by omega)
  obtain ⟨n, hn⟩ : ∃ n, n = m + 1 := ⟨_, rfl⟩
  obtain ⟨N, hN⟩ : ∃ N, N = 8 * (m / 8 + 1) := ⟨_, rfl⟩
  rw [← hn] at h1 h34 h32 htail ⊢
  rw [← hN] at htail
  generalize List.replicate m 0 ++ [1] = res at *
  simp only [Int.natCast_one] at h34 h32
  have a1 : den AP RPn sb23_0 { vars := [.sl .none 1 (u8s (pk m)), .int .i64 n, .int .i64 1, .sl (.own false) 1 [], .int .i64 0, .undef, .undef, .undef, .undef, .undef, .undef, .undef], tmps := [], store := [] } =
      some (.ret, { vars := [.sl .none 1 (u8s (pk m)), .int .i64 n, .int .i64 1, .sl (.own false) 1 (u64s res), .int .i64 0, .int .i64 N, u', i', .int .i64 n, .int .i64 n, x', y'], tmps := [], store := [] }) := by
    simp [sb23_0, h34, h32, h1, htail]
  rw [denF_code (fn := af23) rfl]
  simp [af23]
  rw [den_scope_ret a1]
  simp

theorem packget_run (m c : Nat) (hc : c ≤ 1) (hm : m ≤ 60000) : denF AP RPn 23 [.sl .none 1 (u8s (packB m c)), .int .i64 (m + 1 : Nat), .int .i64 c] [] = some (.tup [.sl (.own false) 1 (u64s (List.replicate m 0 ++ [c])), .int .i64 0], []) := by
  have : c = 0 ∨ c = 1 := by omega
  rcases this with rfl | rfl
  · have := packget0 (m + 1) (by omega)
    rw [List.replicate_succ'] at this
    simpa [packB] using this
  · exact packget1 m (by omega)

theorem false_loop (l : List Bool) (hl : l.length ≤ 1000000) (h : ∀ b ∈ l, b = true) (r : AV) (d : Nat) : ∀ (i : Nat) (a : AV), i + d = l.length →
    ∃ b, den AP RPn lp35_0 { vars := [.sl .none 1 (bools l), .bool false, r, a, .int .i64 i, .int .i64 l.length], tmps := [], store := [] } =
      some (.exit 0, { vars := [.sl .none 1 (bools l), .bool false, r, b, .int .i64 l.length, .int .i64 l.length], tmps := [], store := [] }) := by
  induction d with
  | zero =>
    intro i a hi
    have : i = l.length := by omega
    subst this
    refine ⟨a, ?_⟩
    rw [lp35_0, den_loop_]
    simp [bd35_0]
  | succ d ih =>
    intro i a hi
    have hlt : i < l.length := by omega
    have hb := h l[i] (List.getElem_mem hlt)
    have e1 : IntKind.i64.wrap ((i : Int) + 1) = (i : Int) + 1 := wrap_i64 _ (by omega) (by omega)
    obtain ⟨b, h1⟩ := ih (i + 1) (.int .i64 i) (by omega)
    refine ⟨b, ?_⟩
    rw [← h1, lp35_0, den_loop_]
    simp [bd35_0, hlt, hb, e1]

theorem nofalse_run (l : List Bool) (hl : l.length ≤ 1000000) (h : ∀ b ∈ l, b = true) : denF AP RPn 24 [.sl .none 1 (bools l), .bool false] [] = some (.bool false, []) := by
  obtain ⟨b, h1⟩ := false_loop l hl h (.int .i64 0) l.length 0 .undef (by omega)
  simp only [Int.natCast_zero] at h1
  have h35 : denF AP RPn 35 [.sl .none 1 (bools l), .bool false] [] = some (.int .i64 (-1), []) := by
    rw [denF_code (fn := af35) rfl]
    simp [af35, h1]
  rw [denF_code (fn := af24) rfl]
  simp [af24, h35]
end Go.VS
/- dict.Get's loops. -/
namespace Go.VS

theorem rd_loop (b : List Nat) (hbl : b.length ≤ 100000) (w : List (List UInt8)) (hr : w.Pairwise (· < ·)) (hs : ∀ s ∈ w, s.length ≤ 255) (hw : w.length ≤ 1000) (tail : List Nat) (n res v5 v6 v7 v11 v12 v15 v16 v17 : AV) (d : Nat) : ∀ (i : Nat) (pre : List Nat) (x y : AV), i + d = w.length → b = pre ++ (wordsB (w.drop i) ++ tail) →
    ∃ x' y', den AP RPn lp10_1 { vars := [.sl .none 1 (u8s b), n, res, .int .i64 0, .sl (.own false) 1 (strs (w.take i)), v5, v6, v7, x, .int .i64 pre.length, y, v11, v12, .int .u64 i, .int .u64 w.length, v15, v16, v17], tmps := [], store := [] } =
      some (.exit 0, { vars := [.sl .none 1 (u8s b), n, res, .int .i64 0, .sl (.own false) 1 (strs w), v5, v6, v7, x', .int .i64 (pre ++ wordsB (w.drop i)).length, y', v11, v12, .int .u64 w.length, .int .u64 w.length, v15, v16, v17], tmps := [], store := [] }) := by
  induction d with
  | zero =>
    intro i pre x y hi hb
    have : i = w.length := by omega
    subst this
    refine ⟨x, y, ?_⟩
    rw [List.take_length, lp10_1, den_loop_]
    simp [bd10_1, wordsB]
  | succ d ih =>
    intro i pre x y hi hb
    have hlt : i < w.length := by omega
    have hsl := hs w[i] (List.getElem_mem hlt)
    have hdrop : wordsB (w.drop i) = numB w[i].length ++ w[i].map UInt8.toNat ++ wordsB (w.drop (i + 1)) := by
      rw [List.drop_eq_getElem_cons hlt, wordsB]
    rw [hdrop] at hb
    have hb1 : b = pre ++ (numB w[i].length ++ (w[i].map UInt8.toNat ++ (wordsB (w.drop (i + 1)) ++ tail))) := by rw [hb]; simp
    have hword := word_run b pre.length w[i] pre _ hb1 rfl hsl hbl
    have hb2 : b = (pre ++ (numB w[i].length ++ w[i].map UInt8.toNat)) ++ (wordsB (w.drop (i + 1)) ++ tail) := by rw [hb]; simp
    obtain ⟨x', y', h1⟩ := ih (i + 1) (pre ++ (numB w[i].length ++ w[i].map UInt8.toNat)) (.str w[i]) (.int .i64 ((numB w[i].length).length + w[i].length : Nat)) (by omega) hb2
    obtain ⟨q, hq⟩ : ∃ q, q = (numB w[i].length).length + w[i].length := ⟨_, rfl⟩
    have hql : pre.length + q ≤ b.length := by rw [hb2]; simp; omega
    have hpl : (pre ++ (numB w[i].length ++ w[i].map UInt8.toNat)).length = pre.length + q := by simp [hq]
    refine ⟨x', y', ?_⟩
    rw [show pre ++ wordsB (w.drop i) = pre ++ (numB w[i].length ++ w[i].map UInt8.toNat) ++ wordsB (w.drop (i + 1)) by rw [hdrop]; simp, ← h1, hpl, ← hq]
    rw [← hq] at hword
    have htk : w.take (i + 1) = w.take i ++ [w[i]] := by rw [List.take_succ_eq_append_getElem hlt]
    have htl : (w.take i).length = i := by simp; omega
    have e1 : IntKind.u64.wrap ((i : Int) + 1) = (i : Int) + 1 := wrap_u64 _ (by omega) (by omega)
    have e2 : IntKind.i64.wrap ((pre.length : Int) + q) = (pre.length : Int) + q := wrap_i64 _ (by omega) (by omega)
    have e3 : i + 1 ≤ lim := by unfold lim; omega
    rw [htk, lp10_1, den_loop_]
    by_cases h0 : i = 0
    · subst h0
      simp [bd10_1, hlt, hword, e2, lim, show IntKind.u64.wrap 1 = 1 from rfl, show strs [w[0]] = [.str w[0]] from rfl]
    · obtain ⟨j, hj⟩ : ∃ j, i = j + 1 := ⟨i - 1, by omega⟩
      have hjl : j < w.length := by omega
      have hji : j < i := by omega
      have e4 : IntKind.i64.wrap ((i : Int) - 1) = (j : Int) := by rw [wrap_i64 _ (by omega) (by omega)]; omega
      have hlt' := List.pairwise_iff_getElem.1 hr j i hjl hlt hji
      have e5 : Op.bytesLess w[i] w[j] = false := by rw [bl_eq, decide_eq_false_iff_not]; exact fun h => List.lt_irrefl _ (List.lt_trans h hlt')
      have e6 : w[i] ≠ w[j] := fun e => by rw [e] at hlt'; exact List.lt_irrefl _ hlt'
      have hg : ∀ h, (w.take i)[j]'h = w[j] := fun h => by simp
      generalize w.take i = wt at *
      subst htl
      simp [bd10_1, hlt, hword, e1, e2, e3, e4, e5, e6, hg, hji, show 0 < wt.length by omega]

theorem pl_loop (l w : List (List UInt8)) (hl : l.length ≤ 1000000) (hp : ∀ s ∈ l, w[idx w s]? = some s) (hw : w.length ≤ 1000000) (b n v7 v8 v9 v10 v11 v13 v14 : AV) (d : Nat) : ∀ (i : Nat) (asked : List Bool) (x : AV), i + d = l.length → asked.length = w.length →
    (∀ s ∈ l.take i, asked[idx w s]? = some true) →
    ∃ asked' x', asked'.length = w.length ∧ (∀ s ∈ l, asked'[idx w s]? = some true) ∧
    den AP RPn lp10_0 { vars := [b, n, .sl (.own false) 1 (strs (l.take i)), .int .i64 0, .sl (.own false) 1 (strs w), .sl (.own false) 1 (u64s (l.map (idx w))), .sl (.own true) 1 (bools asked), v7, v8, v9, v10, v11, x, v13, v14, .int .i64 i, .int .i64 l.length, .sl .none 1 (u64s (l.map (idx w)))], tmps := [], store := [] } =
      some (.exit 2, { vars := [b, n, .sl (.own false) 1 (strs l), .int .i64 0, .sl (.own false) 1 (strs w), .sl (.own false) 1 (u64s (l.map (idx w))), .sl (.own true) 1 (bools asked'), v7, v8, v9, v10, v11, x', v13, v14, .int .i64 l.length, .int .i64 l.length, .sl .none 1 (u64s (l.map (idx w)))], tmps := [], store := [] }) := by
  induction d with
  | zero =>
    intro i asked x hi ha hs
    have : i = l.length := by omega
    subst this
    refine ⟨asked, x, ha, by simpa using hs, ?_⟩
    rw [List.take_length, lp10_0, den_loop_]
    simp [bd10_0]
  | succ d ih =>
    intro i asked x hi ha hs
    have hlt : i < l.length := by omega
    obtain ⟨hq, hg⟩ := List.getElem?_eq_some_iff.1 (hp l[i] (List.getElem_mem hlt))
    have hqa : idx w l[i] < asked.length := by omega
    obtain ⟨asked', x', h1, h2, h3⟩ := ih (i + 1) (asked.set (idx w l[i]) true) (.int .u64 (idx w l[i])) (by omega) (by simpa using ha) (by
      intro s hs'
      rw [List.take_succ_eq_append_getElem hlt, List.mem_append] at hs'
      by_cases e : idx w s = idx w l[i]
      · rw [e, List.getElem?_set_self hqa]
      · rw [List.getElem?_set_ne (Ne.symm e)]
        rcases hs' with hs' | hs'
        · exact hs s hs'
        · simp at hs'
          subst hs'
          exact absurd rfl e)
    refine ⟨asked', x', h1, h2, ?_⟩
    have e1 : IntKind.i64.wrap ((i : Int) + 1) = (i : Int) + 1 := wrap_i64 _ (by omega) (by omega)
    have e2 : IntKind.u64.wrap (w.length : Int) = (w.length : Int) := wrap_u64 _ (by omega) (by omega)
    have e3 : ¬ (w.length ≤ idx w l[i]) := by omega
    have htk : l.take (i + 1) = l.take i ++ [l[i]] := by rw [List.take_succ_eq_append_getElem hlt]
    have htl : (l.take i).length = i := by simp; omega
    have e4 : (l.take i).length + 1 ≤ lim := by rw [htl]; unfold lim; omega
    rw [← h3, htk, lp10_0, den_loop_]
    generalize l.take i = lt at *
    simp [bd10_0, hlt, e1, e2, e3, hq, hg, hqa, e4]
end Go.VS
/- dict.Get reads what dict.Put told, on DictLong's lists. -/
namespace Go.VS

theorem idx_at {w : List (List UInt8)} (hr : w.Pairwise (· < ·)) {i : Nat} (hi : i < w.length) : idx w w[i] = i := by
  have hg := idx_get (List.getElem_mem hi)
  obtain ⟨hq, hg⟩ := List.getElem?_eq_some_iff.1 hg
  have hr := List.pairwise_iff_getElem.1 hr
  rcases Nat.lt_trichotomy (idx w w[i]) i with h | h | h
  · have := hr _ _ hq hi h; rw [hg] at this; exact absurd this (List.lt_irrefl _)
  · exact h
  · have := hr _ _ hi hq h; rw [hg] at this; exact absurd this (List.lt_irrefl _)

theorem all_asked {l w : List (List UInt8)} (hr : w.Pairwise (· < ·)) (hm : ∀ s ∈ w, s ∈ l) {asked : List Bool} (ha : asked.length = w.length) (h : ∀ s ∈ l, asked[idx w s]? = some true) : ∀ b ∈ asked, b = true := by
  intro b hb
  obtain ⟨i, hi, rfl⟩ := List.mem_iff_getElem.1 hb
  have hiw : i < w.length := by omega
  have := h _ (hm _ (List.getElem_mem hiw))
  rw [idx_at hr hiw] at this
  exact (List.getElem?_eq_some_iff.1 this).2

theorem ww_le (m k : Nat) : (ww m k).length ≤ m + 1 := by
  unfold ww
  split
  · simp
  · rename_i h
    simp; omega

theorem dictget_run (m k : Nat) (hm : m ≤ 4095) (hk : k ≤ 255) : denF AP RPn 10 [.sl .none 1 (u8s (dictB m k)), .int .i64 (m + 1 : Nat)] [] = some (.tup [.sl (.own false) 1 (strs (lw m k)), .int .i64 0], []) := by
  have hww := ww_len m k
  have hwle := ww_le m k
  have hcc := cc_le m k
  have hwb := wordsB_len (ww m k) (ww_small m k hk)
  have hpb : (packB m (cc m k)).length ≤ 600 := by unfold packB; split <;> simp <;> omega
  have hlen := lw_length m k
  have hpl := lw_places m k
  have hget : ∀ s ∈ lw m k, (ww m k)[idx (ww m k) s]? = some s := fun s hs => idx_get ((ww_mem m k s).2 hs)
  have hpk := packget_run m (cc m k) hcc (by omega)
  have hwid := width_run (List.replicate m 0 ++ [cc m k]) (fun x hx => by simp at hx; omega) (by simp; omega)
  rw [at_max] at hwid
  rw [← hpl] at hpk hwid
  have hnum : numB (ww m k).length = [(ww m k).length] := numB_small (by omega)
  have hbl : (dictB m k).length ≤ 100000 := by unfold dictB; rw [hnum]; simp; omega
  have hg := getnum (dictB m k) 0 (ww m k).length [] (wordsB (ww m k) ++ [cc m k] ++ packB m (cc m k)) (by unfold dictB; simp) rfl (by omega) hbl
  rw [hnum] at hg
  obtain ⟨x', y', h1⟩ := rd_loop (dictB m k) hbl (ww m k) (ww_rises m k) (ww_small m k hk) (by omega) ([cc m k] ++ packB m (cc m k)) (.int .i64 (m + 1 : Nat)) (.sl (.own false) 1 []) (.sl (.own false) 1 []) (.sl (.own true) 1 []) (.int .u64 (ww m k).length) (.int .i64 0) .undef .undef .undef .undef (ww m k).length 0 [(ww m k).length] (.str []) (.int .i64 0) (by omega) (by unfold dictB; rw [hnum]; simp)
  obtain ⟨asked', z', a1, a2, h2⟩ := pl_loop (lw m k) (ww m k) (by omega) hget (by omega) (.sl .none 1 (u8s (dictB m k))) (.int .i64 (m + 1 : Nat)) (.int .u64 (ww m k).length) x' (.int .i64 ([(ww m k).length] ++ wordsB (ww m k)).length) y' (.int .i64 (cc m k)) (.int .u64 (ww m k).length) (.int .u64 (ww m k).length) (lw m k).length 0 (List.replicate (ww m k).length false) .undef (by omega) (by simp) (by simp)
  have hall := all_asked (ww_rises m k) (fun s hs => (ww_mem m k s).1 hs) a1 a2
  have h24 := nofalse_run asked' (by omega) hall
  obtain ⟨p, hp⟩ : ∃ p, p = ([(ww m k).length] ++ wordsB (ww m k)).length := ⟨_, rfl⟩
  have hb0 : dictB m k = ([(ww m k).length] ++ wordsB (ww m k)) ++ (cc m k :: packB m (cc m k)) := by unfold dictB; rw [hnum]; simp
  have hbp : (dictB m k)[p]? = some (cc m k) := by rw [hb0, hp, List.getElem?_append_right (Nat.le_refl _)]; simp
  obtain ⟨hpl', hbx⟩ := List.getElem?_eq_some_iff.1 hbp
  have hdr : (dictB m k).drop (p + 1) = packB m (cc m k) := by
    rw [hb0, show ([(ww m k).length] ++ wordsB (ww m k)) ++ (cc m k :: packB m (cc m k)) = (([(ww m k).length] ++ wordsB (ww m k)) ++ [cc m k]) ++ packB m (cc m k) by simp]
    exact List.drop_left' (by rw [hp]; simp)
  have hdl : (dictB m k).length = p + 1 + (packB m (cc m k)).length := by rw [hb0, hp]; simp; omega
  rw [List.drop_zero, ← hp] at h1
  rw [← hp] at h2
  simp only [Int.natCast_zero, Int.natCast_one, List.take_zero, strs_nil', List.length_singleton] at h1 h2 hg
  obtain ⟨n, hn⟩ : ∃ n, n = m + 1 := ⟨_, rfl⟩
  rw [← hn] at h1 h2 hpk hwle ⊢
  have hlen2 : ((lw m k).map (idx (ww m k))).length = (lw m k).length := by simp
  generalize (lw m k).map (idx (ww m k)) = pls at *
  have hrep : List.replicate (ww m k).length (AV.bool false) = bools (List.replicate (ww m k).length false) := by simp [bools]
  have hlim : (ww m k).length ≤ lim := by unfold lim; omega
  generalize hB : dictB m k = B at *
  generalize hC : cc m k = c at *
  generalize hPB : packB m c = pb at *
  generalize hWW : ww m k = w at *
  generalize hLW : lw m k = l at *
  have e1 : IntKind.u64.wrap (n : Int) = (n : Int) := wrap_u64 _ (by omega) (by omega)
  have e2 : IntKind.i64.wrap (c : Int) = (c : Int) := wrap_i64 _ (by omega) (by omega)
  have e3 : IntKind.i64.wrap ((p : Int) + 1) = ((p + 1 : Nat) : Int) := wrap_i64 _ (by omega) (by omega)
  have e5 : ¬ ((p : Int) = (B.length : Int)) := by omega
  obtain ⟨p1, hp1⟩ : ∃ p1, p1 = p + 1 := ⟨_, rfl⟩
  rw [← hp1] at e3 hdr hdl
  have htk : (u8s pb).take (B.length - p1) = u8s pb := by rw [u8s_take, List.take_of_length_le (by omega)]
  have st : den AP RPn sb10_0 { vars := [.sl .none 1 (u8s B), .int .i64 n, .sl (.own false) 1 [], .int .i64 0, .undef, .undef, .undef, .undef, .undef, .undef, .undef, .undef, .undef, .undef, .undef, .undef, .undef, .undef], tmps := [], store := [] } =
      some (.ret, { vars := [.sl .none 1 (u8s B), .int .i64 n, .sl (.own false) 1 (strs l), .int .i64 0, .sl (.own false) 1 (strs w), .sl (.own false) 1 (u64s pls), .sl (.own false) 1 (bools asked'), .int .u64 w.length, x', .int .i64 p, y', .int .i64 c, z', .int .u64 w.length, .int .u64 w.length, .int .i64 l.length, .int .i64 l.length, .sl .none 1 (u64s pls)], tmps := [], store := [] }) := by
    simp [sb10_0, show ¬ (4096 < n) by omega, hg, e1, show ¬ (n < w.length) by omega, h1, e5, hpl', hbx, e2, e3, show p1 ≤ B.length by omega, hdr, htk, hpk, hlim, hrep, hlen2, h2, hwid, h24]
  rw [denF_code (fn := af10) rfl]
  simp [af10]
  rw [den_scope_ret st]
  simp
end Go.VS
/- DictLong: what it comes to. -/
namespace Go.VS

theorem lw_set (m k : Nat) : (strs (List.replicate (m + 1) [])).set m (.str (List.replicate k 0)) = strs (lw m k) := by
  rw [List.replicate_succ', strs, lw, List.map_append, List.set_append_right _ _ (by simp)]
  simp [strs]

theorem dec_zeros (k : Nat) : decBytes (List.replicate k (.int .u8 0)) = some (List.replicate k 0) := by
  induction k with
  | zero => rfl
  | succ k ih => rw [List.replicate_succ, decBytes, ih]; rfl

theorem strs_replicate (n : Nat) : List.replicate n (AV.str []) = strs (List.replicate n []) := by simp [strs]

theorem dictlong_run (a b : Nat) (ha : a < 65536) (hb : b < 65536) : denF AP RPn 4 [.int .u16 a, .int .u16 b] [] = some (.bool true, []) := by
  obtain ⟨k, hk⟩ : ∃ k, k = a % 260 := ⟨_, rfl⟩
  obtain ⟨m, hm⟩ : ∃ m, m = b % 4100 := ⟨_, rfl⟩
  have e1 : (a : Int).tmod 260 = (k : Int) := by rw [Int.tmod_eq_emod_of_nonneg (by omega)]; omega
  have e2 : (b : Int).tmod 4100 = (m : Int) := by rw [Int.tmod_eq_emod_of_nonneg (by omega)]; omega
  have e3 : IntKind.i64.wrap (k : Int) = (k : Int) := wrap_i64 _ (by omega) (by omega)
  have e4 : IntKind.i64.wrap (m : Int) = (m : Int) := wrap_i64 _ (by omega) (by omega)
  obtain ⟨n, hn⟩ : ∃ n, n = m + 1 := ⟨_, rfl⟩
  have e5 : IntKind.i64.wrap ((m : Int) + 1) = (n : Int) := by rw [wrap_i64 _ (by omega) (by omega)]; omega
  have e6 : k ≤ lim := by unfold lim; omega
  have e7 : n ≤ lim := by unfold lim; omega
  have hset := lw_set m k
  have hlen := lw_length m k
  rw [← hn] at hset hlen
  by_cases h : 255 < k ∨ 4096 < m + 1
  · have h9 := dictput_no m k (by omega) h
    generalize lw m k = l at *
    rw [denF_code (fn := af4) rfl]
    by_cases h1 : 255 < k
    · simp [af4, e1, e2, e3, e4, e5, e6, e7, dec_zeros, strs_replicate, show m < n by omega, hset, h9, h1]
    · simp [af4, e1, e2, e3, e4, e5, e6, e7, dec_zeros, strs_replicate, show m < n by omega, hset, h9, h1, show 4096 < n by omega]
  · have h9 := dictput_run m k (by omega) (by omega)
    have h10 := dictget_run m k (by omega) (by omega)
    rw [← hn] at h10
    generalize lw m k = l at *
    generalize dictB m k = B at *
    rw [denF_code (fn := af4) rfl]
    simp [af4, e1, e2, e3, e4, e5, e6, e7, dec_zeros, strs_replicate, show m < n by omega, hset, h9, h10, show ¬ (255 < k) by omega, show ¬ (4096 < n) by omega, hlen, show IntKind.i64.wrap 0 = 0 from rfl, show 0 < n by omega]
end Go.VS
