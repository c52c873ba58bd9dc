/- Go's library functions that are taken whole: what they answer, and plain facts on it. -/
import Derived.Test.YtpebcbnkalkikaaVsSem
import Derived.Lib.SlicesCompact
import Derived.Sort.Walk0
namespace Go.VS

def isStrs : List AV → Bool
  | [] => true
  | .str _ :: r => isStrs r
  | _ => false
def strOf : AV → List UInt8
  | .str s => s
  | _ => []
def insS (x : List UInt8) : List (List UInt8) → List (List UInt8)
  | [] => [x]
  | y :: ys => if Op.bytesLess y x then y :: insS x ys else x :: y :: ys
def sortS : List (List UInt8) → List (List UInt8)
  | [] => []
  | x :: xs => insS x (sortS xs)
def compS : List (List UInt8) → List (List UInt8)
  | [] => []
  | [x] => [x]
  | x :: y :: r => if x == y then compS (y :: r) else x :: compS (y :: r)
/-- slices.Sorted(slices.Values(s)) at strings; g: the number of slices.Values's closure. -/
def pSortedS (g : FuncId) (args : List AV) (st : List Obj) : Option (AV × List Obj) := match args with
  | [.seq g' 1 xs] => if g' = g then (if isStrs xs then (if xs.length ≤ lim then some (.sl (.own true) 1 ((sortS (xs.map strOf)).map .str), st) else none) else none) else none
  | _ => none
def pCompactS (args : List AV) (st : List Obj) : Option (AV × List Obj) := match args with
  | [.sl (.own true) 1 xs] => if isStrs xs then (if xs.length ≤ lim then some (.sl (.own true) 1 ((compS (xs.map strOf)).map .str), st) else none) else none
  | _ => none

/-- slices.Clone of elements of one cell. -/
def pClone1 (args : List AV) (st : List Obj) : Option (AV × List Obj) := match args with
  | [.sl .none 1 xs] => if xs.length ≤ lim then some (.sl (.own true) 1 xs, st) else none
  | [.sl .full 1 xs] => if xs.length ≤ lim then some (.sl (.own true) 1 xs, st) else none
  | _ => none

theorem bl_eq (x y : List UInt8) : Op.bytesLess x y = decide (x < y) := Go.Proofs.bytesLess_eq x y

theorem insS_perm (x : List UInt8) : ∀ l : List (List UInt8), (insS x l).Perm (x :: l)
  | [] => .refl _
  | y :: ys => by
    unfold insS
    split
    · exact (((insS_perm x ys).cons y)).trans (List.Perm.swap _ _ _)
    · exact .refl _

theorem sortS_perm : ∀ l : List (List UInt8), (sortS l).Perm l
  | [] => .refl _
  | x :: xs => (insS_perm x _).trans ((sortS_perm xs).cons x)

theorem mem_insS {x y : List UInt8} {l : List (List UInt8)} : y ∈ insS x l ↔ y = x ∨ y ∈ l := by
  rw [(insS_perm x l).mem_iff]; simp

theorem insS_sorted (x : List UInt8) : ∀ l : List (List UInt8), l.Pairwise (· ≤ ·) → (insS x l).Pairwise (· ≤ ·)
  | [], _ => by simp [insS]
  | y :: ys, h => by
    rw [List.pairwise_cons] at h
    unfold insS
    split
    · rename_i hb
      rw [bl_eq, decide_eq_true_eq] at hb
      refine List.pairwise_cons.2 ⟨fun z hz => ?_, insS_sorted x ys h.2⟩
      rcases mem_insS.1 hz with rfl | hz
      · exact List.le_of_lt hb
      · exact h.1 z hz
    · rename_i hb
      rw [bl_eq, decide_eq_true_eq] at hb
      have hxy : x ≤ y := List.not_lt.1 hb
      refine List.pairwise_cons.2 ⟨fun z hz => ?_, List.pairwise_cons.2 h⟩
      rcases List.mem_cons.1 hz with rfl | hz
      · exact hxy
      · exact List.le_trans hxy (h.1 z hz)

theorem sortS_sorted : ∀ l : List (List UInt8), (sortS l).Pairwise (· ≤ ·)
  | [] => by simp [sortS]
  | x :: xs => insS_sorted x _ (sortS_sorted xs)

theorem sortS_eq (l : List (List UInt8)) : l.mergeSort (fun x y => decide (x ≤ y)) = sortS l := by
  refine List.Perm.eq_of_pairwise (le := (· ≤ ·)) (fun a b _ _ => List.le_antisymm) ?_ (sortS_sorted l) ((List.mergeSort_perm _ _).trans (sortS_perm l).symm)
  have := List.pairwise_mergeSort (le := fun x y : List UInt8 => decide (x ≤ y)) (fun a b c h1 h2 => by simp only [decide_eq_true_eq] at *; exact List.le_trans h1 h2) (fun a b => by simp only [Bool.or_eq_true, decide_eq_true_eq]; exact List.le_total a b) l
  exact this.imp (by simp)

theorem compS_snoc : ∀ (l : List (List UInt8)) (a : List UInt8), compS (l ++ [a]) = compS l ++ (if l.getLast? = some a then [] else [a])
  | [], a => by simp [compS]
  | [x], a => by
    by_cases h : x = a <;> simp [compS, h]
  | x :: y :: r, a => by
    have ih := compS_snoc (y :: r) a
    simp only [List.cons_append] at ih
    simp only [List.cons_append, compS, List.getLast?_cons_cons]
    split
    · exact ih
    · rw [ih]; rfl

theorem compS_upTo (zs : List (List UInt8)) : ∀ m, m ≤ zs.length → Lib.compactUpTo zs.toArray m = compS (zs.take m)
  | 0, _ => by simp [Lib.compactUpTo, compS]
  | m + 1, h => by
    have hm : m < zs.length := by omega
    rw [Lib.compactUpTo_succ, compS_upTo zs m (by omega), List.take_succ_eq_append_getElem hm, compS_snoc]
    congr 1
    have e1 : zs.toArray[m]! = zs[m] := by simp [hm]
    rw [e1]
    cases m with
    | zero => simp [Lib.keeps]
    | succ k =>
      have e2 : zs.toArray[k + 1 - 1]! = zs[k] := by simp [show k < zs.length by omega]
      have e3 : (zs.take (k + 1)).getLast? = some zs[k] := by
        rw [List.getLast?_eq_getElem?]
        simp [show k < zs.length by omega, Nat.min_eq_left (show k + 1 ≤ zs.length by omega)]
      rw [e3]
      simp only [Lib.keeps, e1, e2]
      by_cases h : zs[k] = zs[k + 1]
      · simp [h]
      · have h' : zs[k + 1] ≠ zs[k] := fun e => h e.symm
        simp [h, h']

theorem compS_eq (zs : List (List UInt8)) : Lib.compact zs = compS zs := by
  rw [Lib.compact, compS_upTo zs zs.length (Nat.le_refl _), List.take_length]

theorem sortS_length (l : List (List UInt8)) : (sortS l).length = l.length := (sortS_perm l).length_eq

theorem compS_length_le : ∀ l : List (List UInt8), (compS l).length ≤ l.length
  | [] => Nat.le_refl _
  | [_] => Nat.le_refl _
  | x :: y :: r => by
    have := compS_length_le (y :: r)
    unfold compS
    split
    · simp only [List.length_cons] at *; omega
    · simp only [List.length_cons] at *; omega

theorem compS_ne : ∀ {l : List (List UInt8)}, l ≠ [] → compS l ≠ []
  | [_], _ => by simp [compS]
  | x :: y :: r, _ => by
    unfold compS
    split
    · exact compS_ne (by simp)
    · simp

theorem isStrs_iff : ∀ {xs : List AV}, isStrs xs = true → xs = (xs.map strOf).map .str
  | [], _ => rfl
  | .str s :: r, h => by
    have := isStrs_iff (xs := r) h
    simp only [List.map_cons, strOf]
    rw [← this]
end Go.VS
