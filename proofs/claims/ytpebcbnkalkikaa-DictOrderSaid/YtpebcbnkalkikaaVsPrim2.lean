/- Words, once each, rising: plain facts. -/
import Derived.Test.YtpebcbnkalkikaaVsPrim
namespace Go.VS

theorem mem_compS {s : List UInt8} : ∀ {l : List (List UInt8)}, s ∈ compS l ↔ s ∈ l
  | [] => by simp [compS]
  | [x] => by simp [compS]
  | x :: y :: r => by
    have ih := mem_compS (s := s) (l := y :: r)
    unfold compS
    split
    · rename_i h
      have h : x = y := by simpa using h
      rw [ih]; subst h; simp
    · rw [List.mem_cons, ih, List.mem_cons (a := s) (b := x)]

theorem compS_rises : ∀ {l : List (List UInt8)}, l.Pairwise (· ≤ ·) → (compS l).Pairwise (· < ·)
  | [], _ => by simp [compS]
  | [x], _ => by simp [compS]
  | x :: y :: r, h => by
    have h2 := List.pairwise_cons.1 h
    have ih := compS_rises h2.2
    unfold compS
    split
    · exact ih
    · rename_i hne
      have hne : x ≠ y := by simpa using hne
      refine List.pairwise_cons.2 ⟨fun z hz => ?_, ih⟩
      have hz' := mem_compS.1 hz
      have hxy : x ≤ y := h2.1 y (by simp)
      have hyz : y ≤ z := by
        rcases List.mem_cons.1 hz' with rfl | hz'
        · exact List.le_refl _
        · exact (List.pairwise_cons.1 h2.2).1 z hz'
      refine List.not_le.1 fun hle => hne (List.le_antisymm hxy (List.le_trans hyz hle))

/-- The words, once each, rising. -/
def wordsOf (l : List (List UInt8)) : List (List UInt8) := compS (sortS l)

theorem mem_wordsOf {s : List UInt8} {l : List (List UInt8)} : s ∈ wordsOf l ↔ s ∈ l := by
  unfold wordsOf; rw [mem_compS, (sortS_perm l).mem_iff]

theorem wordsOf_rises (l : List (List UInt8)) : (wordsOf l).Pairwise (· < ·) := compS_rises (sortS_sorted l)

theorem wordsOf_perm {l k : List (List UInt8)} (h : l.Perm k) : wordsOf l = wordsOf k := by
  unfold wordsOf
  congr 1
  exact List.Perm.eq_of_pairwise (le := (· ≤ ·)) (fun a b _ _ => List.le_antisymm) (sortS_sorted l) (sortS_sorted k) ((sortS_perm l).trans (h.trans (sortS_perm k).symm))

theorem wordsOf_length_le (l : List (List UInt8)) : (wordsOf l).length ≤ l.length := by
  have := compS_length_le (sortS l)
  rw [sortS_length] at this
  exact this

/-- What a search finds: all before q are less than s, none from q on. -/
structure Place (w : List (List UInt8)) (s : List UInt8) (q : Nat) : Prop where
  le : q ≤ w.length
  less : ∀ p x, p < q → w[p]? = some x → Op.bytesLess x s = true
  not : ∀ p x, q ≤ p → w[p]? = some x → Op.bytesLess x s = false

/-- Where a word stands. -/
def idx (w : List (List UInt8)) (s : List UInt8) : Nat := w.findIdx (· == s)

theorem idx_get {w : List (List UInt8)} {s : List UInt8} (h : s ∈ w) : w[idx w s]? = some s := by
  have hlt : idx w s < w.length := List.findIdx_lt_length.2 ⟨s, h, by simp⟩
  have h1 : (w[idx w s]'hlt == s) = true := List.findIdx_getElem (w := hlt)
  rw [List.getElem?_eq_getElem hlt, eq_of_beq h1]

theorem idx_place {w : List (List UInt8)} {s : List UInt8} (hw : w.Pairwise (· < ·)) (h : s ∈ w) : Place w s (idx w s) := by
  have hg := idx_get h
  obtain ⟨hlt, hs⟩ := List.getElem?_eq_some_iff.1 hg
  rw [List.pairwise_iff_getElem] at hw
  refine ⟨Nat.le_of_lt hlt, fun p x hp hx => ?_, fun p x hp hx => ?_⟩
  · obtain ⟨hpl, rfl⟩ := List.getElem?_eq_some_iff.1 hx
    rw [bl_eq, decide_eq_true_eq, ← hs]
    exact hw p _ hpl hlt hp
  · obtain ⟨hpl, rfl⟩ := List.getElem?_eq_some_iff.1 hx
    rw [bl_eq, decide_eq_false_iff_not, ← hs]
    rcases Nat.lt_or_eq_of_le hp with h1 | h1
    · have := hw _ _ hlt hpl h1
      exact fun h2 => List.lt_irrefl _ (List.lt_trans h2 this)
    · intro h2
      simp only [← h1] at h2
      exact List.lt_irrefl _ h2

theorem words_place {l : List (List UInt8)} : ∀ s ∈ l, Place (wordsOf l) s (idx (wordsOf l) s) ∧ (wordsOf l)[idx (wordsOf l) s]? = some s :=
  fun s hs => ⟨idx_place (wordsOf_rises l) (mem_wordsOf.2 hs), idx_get (mem_wordsOf.2 hs)⟩
end Go.VS
