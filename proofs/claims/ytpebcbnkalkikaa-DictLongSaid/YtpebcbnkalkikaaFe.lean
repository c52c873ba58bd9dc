/- Go's library functions that are taken whole: what they answer, and plain facts on it. -/
import Derived.Test.YtpebcbnkalkikaaFa
import Derived.Lib.SlicesCompact
import Derived.Sort.Walk0
import Derived.Test.YtpebcbnkalkikaaFd
import Derived.Below
import Derived.WideShapes
namespace Go.VS

def isStrs : List AV → Bool
  | [] => true
  | .str _ :: r => isStrs r
  | _ => false
def strOf : AV → List UInt8
  | .str s => s
  | _ => []
def insS (x : List UInt8) : List (List UInt8) → List (List UInt8)
  | [] => [x]
  | y :: ys => if Op.bytesLess y x then y :: insS x ys else x :: y :: ys
def sortS : List (List UInt8) → List (List UInt8)
  | [] => []
  | x :: xs => insS x (sortS xs)
def compS : List (List UInt8) → List (List UInt8)
  | [] => []
  | [x] => [x]
  | x :: y :: r => if x == y then compS (y :: r) else x :: compS (y :: r)
/-- slices.Sorted(slices.Values(s)) at strings; g: the number of slices.Values's closure. -/
def pSortedS (g : FuncId) (args : List AV) (st : List Obj) : Option (AV × List Obj) := match args with
  | [.seq g' 1 xs] => if g' = g then (if isStrs xs then (if xs.length ≤ lim then some (.sl (.own true) 1 ((sortS (xs.map strOf)).map .str), st) else none) else none) else none
  | _ => none
def pCompactS (args : List AV) (st : List Obj) : Option (AV × List Obj) := match args with
  | [.sl (.own true) 1 xs] => if isStrs xs then (if xs.length ≤ lim then some (.sl (.own true) 1 ((compS (xs.map strOf)).map .str), st) else none) else none
  | _ => none

/-- slices.Clone of elements of one cell. -/
def pClone1 (args : List AV) (st : List Obj) : Option (AV × List Obj) := match args with
  | [.sl .none 1 xs] => if xs.length ≤ lim then some (.sl (.own true) 1 xs, st) else none
  | [.sl .full 1 xs] => if xs.length ≤ lim then some (.sl (.own true) 1 xs, st) else none
  | _ => none

theorem bl_eq (x y : List UInt8) : Op.bytesLess x y = decide (x < y) := Go.Proofs.bytesLess_eq x y

theorem insS_perm (x : List UInt8) : ∀ l : List (List UInt8), (insS x l).Perm (x :: l)
  | [] => .refl _
  | y :: ys => by
    unfold insS
    split
    · exact (((insS_perm x ys).cons y)).trans (List.Perm.swap _ _ _)
    · exact .refl _

theorem sortS_perm : ∀ l : List (List UInt8), (sortS l).Perm l
  | [] => .refl _
  | x :: xs => (insS_perm x _).trans ((sortS_perm xs).cons x)

theorem mem_insS {x y : List UInt8} {l : List (List UInt8)} : y ∈ insS x l ↔ y = x ∨ y ∈ l := by
  rw [(insS_perm x l).mem_iff]; simp

theorem insS_sorted (x : List UInt8) : ∀ l : List (List UInt8), l.Pairwise (· ≤ ·) → (insS x l).Pairwise (· ≤ ·)
  | [], _ => by simp [insS]
  | y :: ys, h => by
    rw [List.pairwise_cons] at h
    unfold insS
    split
    · rename_i hb
      rw [bl_eq, decide_eq_true_eq] at hb
      refine List.pairwise_cons.2 ⟨fun z hz => ?_, insS_sorted x ys h.2⟩
      rcases mem_insS.1 hz with rfl | hz
      · exact List.le_of_lt hb
      · exact h.1 z hz
    · rename_i hb
      rw [bl_eq, decide_eq_true_eq] at hb
      have hxy : x ≤ y := List.not_lt.1 hb
      refine List.pairwise_cons.2 ⟨fun z hz => ?_, List.pairwise_cons.2 h⟩
      rcases List.mem_cons.1 hz with rfl | hz
      · exact hxy
      · exact List.le_trans hxy (h.1 z hz)

theorem sortS_sorted : ∀ l : List (List UInt8), (sortS l).Pairwise (· ≤ ·)
  | [] => by simp [sortS]
  | x :: xs => insS_sorted x _ (sortS_sorted xs)

theorem sortS_eq (l : List (List UInt8)) : l.mergeSort (fun x y => decide (x ≤ y)) = sortS l := by
  refine List.Perm.eq_of_pairwise (le := (· ≤ ·)) (fun a b _ _ => List.le_antisymm) ?_ (sortS_sorted l) ((List.mergeSort_perm _ _).trans (sortS_perm l).symm)
  have := List.pairwise_mergeSort (le := fun x y : List UInt8 => decide (x ≤ y)) (fun a b c h1 h2 => by simp only [decide_eq_true_eq] at *; exact List.le_trans h1 h2) (fun a b => by simp only [Bool.or_eq_true, decide_eq_true_eq]; exact List.le_total a b) l
  exact this.imp (by simp)

theorem compS_snoc : ∀ (l : List (List UInt8)) (a : List UInt8), compS (l ++ [a]) = compS l ++ (if l.getLast? = some a then [] else [a])
  | [], a => by simp [compS]
  | [x], a => by
    by_cases h : x = a <;> simp [compS, h]
  | x :: y :: r, a => by
    have ih := compS_snoc (y :: r) a
    simp only [List.cons_append] at ih
    simp only [List.cons_append, compS, List.getLast?_cons_cons]
    split
    · exact ih
    · rw [ih]; rfl

theorem compS_upTo (zs : List (List UInt8)) : ∀ m, m ≤ zs.length → Lib.compactUpTo zs.toArray m = compS (zs.take m)
  | 0, _ => by simp [Lib.compactUpTo, compS]
  | m + 1, h => by
    have hm : m < zs.length := by omega
    rw [Lib.compactUpTo_succ, compS_upTo zs m (by omega), List.take_succ_eq_append_getElem hm, compS_snoc]
    congr 1
    have e1 : zs.toArray[m]! = zs[m] := by simp [hm]
    rw [e1]
    cases m with
    | zero => simp [Lib.keeps]
    | succ k =>
      have e2 : zs.toArray[k + 1 - 1]! = zs[k] := by simp [show k < zs.length by omega]
      have e3 : (zs.take (k + 1)).getLast? = some zs[k] := by
        rw [List.getLast?_eq_getElem?]
        simp [show k < zs.length by omega, Nat.min_eq_left (show k + 1 ≤ zs.length by omega)]
      rw [e3]
      simp only [Lib.keeps, e1, e2]
      by_cases h : zs[k] = zs[k + 1]
      · simp [h]
      · have h' : zs[k + 1] ≠ zs[k] := fun e => h e.symm
        simp [h, h']

theorem compS_eq (zs : List (List UInt8)) : Lib.compact zs = compS zs := by
  rw [Lib.compact, compS_upTo zs zs.length (Nat.le_refl _), List.take_length]

theorem sortS_length (l : List (List UInt8)) : (sortS l).length = l.length := (sortS_perm l).length_eq

theorem compS_length_le : ∀ l : List (List UInt8), (compS l).length ≤ l.length
  | [] => Nat.le_refl _
  | [_] => Nat.le_refl _
  | x :: y :: r => by
    have := compS_length_le (y :: r)
    unfold compS
    split
    · simp only [List.length_cons] at *; omega
    · simp only [List.length_cons] at *; omega

theorem compS_ne : ∀ {l : List (List UInt8)}, l ≠ [] → compS l ≠ []
  | [_], _ => by simp [compS]
  | x :: y :: r, _ => by
    unfold compS
    split
    · exact compS_ne (by simp)
    · simp

theorem isStrs_iff : ∀ {xs : List AV}, isStrs xs = true → xs = (xs.map strOf).map .str
  | [], _ => rfl
  | .str s :: r, h => by
    have := isStrs_iff (xs := r) h
    simp only [List.map_cons, strOf]
    rw [← this]
end Go.VS
/- Words, once each, rising: plain facts. -/
namespace Go.VS

theorem mem_compS {s : List UInt8} : ∀ {l : List (List UInt8)}, s ∈ compS l ↔ s ∈ l
  | [] => by simp [compS]
  | [x] => by simp [compS]
  | x :: y :: r => by
    have ih := mem_compS (s := s) (l := y :: r)
    unfold compS
    split
    · rename_i h
      have h : x = y := by simpa using h
      rw [ih]; subst h; simp
    · rw [List.mem_cons, ih, List.mem_cons (a := s) (b := x)]

theorem compS_rises : ∀ {l : List (List UInt8)}, l.Pairwise (· ≤ ·) → (compS l).Pairwise (· < ·)
  | [], _ => by simp [compS]
  | [x], _ => by simp [compS]
  | x :: y :: r, h => by
    have h2 := List.pairwise_cons.1 h
    have ih := compS_rises h2.2
    unfold compS
    split
    · exact ih
    · rename_i hne
      have hne : x ≠ y := by simpa using hne
      refine List.pairwise_cons.2 ⟨fun z hz => ?_, ih⟩
      have hz' := mem_compS.1 hz
      have hxy : x ≤ y := h2.1 y (by simp)
      have hyz : y ≤ z := by
        rcases List.mem_cons.1 hz' with rfl | hz'
        · exact List.le_refl _
        · exact (List.pairwise_cons.1 h2.2).1 z hz'
      refine List.not_le.1 fun hle => hne (List.le_antisymm hxy (List.le_trans hyz hle))

/-- The words, once each, rising. -/
def wordsOf (l : List (List UInt8)) : List (List UInt8) := compS (sortS l)

theorem mem_wordsOf {s : List UInt8} {l : List (List UInt8)} : s ∈ wordsOf l ↔ s ∈ l := by
  unfold wordsOf; rw [mem_compS, (sortS_perm l).mem_iff]

theorem wordsOf_rises (l : List (List UInt8)) : (wordsOf l).Pairwise (· < ·) := compS_rises (sortS_sorted l)

theorem wordsOf_perm {l k : List (List UInt8)} (h : l.Perm k) : wordsOf l = wordsOf k := by
  unfold wordsOf
  congr 1
  exact List.Perm.eq_of_pairwise (le := (· ≤ ·)) (fun a b _ _ => List.le_antisymm) (sortS_sorted l) (sortS_sorted k) ((sortS_perm l).trans (h.trans (sortS_perm k).symm))

theorem wordsOf_length_le (l : List (List UInt8)) : (wordsOf l).length ≤ l.length := by
  have := compS_length_le (sortS l)
  rw [sortS_length] at this
  exact this

/-- What a search finds: all before q are less than s, none from q on. -/
structure Place (w : List (List UInt8)) (s : List UInt8) (q : Nat) : Prop where
  le : q ≤ w.length
  less : ∀ p x, p < q → w[p]? = some x → Op.bytesLess x s = true
  not : ∀ p x, q ≤ p → w[p]? = some x → Op.bytesLess x s = false

/-- Where a word stands. -/
def idx (w : List (List UInt8)) (s : List UInt8) : Nat := w.findIdx (· == s)

theorem idx_get {w : List (List UInt8)} {s : List UInt8} (h : s ∈ w) : w[idx w s]? = some s := by
  have hlt : idx w s < w.length := List.findIdx_lt_length.2 ⟨s, h, by simp⟩
  have h1 : (w[idx w s]'hlt == s) = true := List.findIdx_getElem (w := hlt)
  rw [List.getElem?_eq_getElem hlt, eq_of_beq h1]

theorem idx_place {w : List (List UInt8)} {s : List UInt8} (hw : w.Pairwise (· < ·)) (h : s ∈ w) : Place w s (idx w s) := by
  have hg := idx_get h
  obtain ⟨hlt, hs⟩ := List.getElem?_eq_some_iff.1 hg
  rw [List.pairwise_iff_getElem] at hw
  refine ⟨Nat.le_of_lt hlt, fun p x hp hx => ?_, fun p x hp hx => ?_⟩
  · obtain ⟨hpl, rfl⟩ := List.getElem?_eq_some_iff.1 hx
    rw [bl_eq, decide_eq_true_eq, ← hs]
    exact hw p _ hpl hlt hp
  · obtain ⟨hpl, rfl⟩ := List.getElem?_eq_some_iff.1 hx
    rw [bl_eq, decide_eq_false_iff_not, ← hs]
    rcases Nat.lt_or_eq_of_le hp with h1 | h1
    · have := hw _ _ hlt hpl h1
      exact fun h2 => List.lt_irrefl _ (List.lt_trans h2 this)
    · intro h2
      simp only [← h1] at h2
      exact List.lt_irrefl _ h2

theorem words_place {l : List (List UInt8)} : ∀ s ∈ l, Place (wordsOf l) s (idx (wordsOf l) s) ∧ (wordsOf l)[idx (wordsOf l) s]? = some s :=
  fun s hs => ⟨idx_place (wordsOf_rises l) (mem_wordsOf.2 hs), idx_get (mem_wordsOf.2 hs)⟩
end Go.VS
/- Equations by which simp runs code over symbolic states. -/
set_option linter.unusedVariables false
namespace Go.VS

attribute [simp] den_skip den_label den_goto den_exit den_ret den_ops den_ite den_seq den_block den_sc den_frz runOps runOp rd look view kill put setV unref unr pers persL plain unG drop binop intBin isShift strBin unop
  partOf cellsOf oneCell cellView runLd freezeT elemOk intShift toIdx optIdx runSlc runApp elemsOf disown ownerLen give skipD skipV killV findL enter outV resOf resL leave stoCell setElem runSto intoCell setPart buildCells

theorem den_loop_ {AP : FuncId → Option AFn} {RP : FuncId → Option (List AV → Option AV)} {c : AC} {st : St} : den AP RP (.loop [] c) st = match den AP RP c st with | some (.norm, st') => den AP RP (.loop [] c) st' | r => r := by rw [den_loop]; rfl

section
variable {AP : FuncId → Option AFn} {RP : FuncId → Option (List AV → Option AV)} {ks : List Nat} {c cur r : AC} {st st' : St} {l : Nat} {out : Out}
theorem den_scope_goto (h : den AP RP cur st = some (.goto l, st')) (hl : findL c l = some r) : den AP RP (.scope ks c cur) st = den AP RP (.scope ks c r) (killV st' ks) := by rw [den_scope, h]; simp only [hl]
theorem den_scope_out (h : den AP RP cur st = some (out, st')) (ho : ∀ l, out ≠ .goto l) : den AP RP (.scope ks c cur) st = some (out, st') := by
  rw [den_scope, h]
  cases out with
  | goto l => exact absurd rfl (ho l)
  | _ => rfl
theorem den_scope_ret (h : den AP RP cur st = some (.ret, st')) : den AP RP (.scope ks c cur) st = some (.ret, st') := den_scope_out h (by simp)
end

theorem wrap_i64 (n : Int) (h1 : -9223372036854775808 ≤ n) (h2 : n < 9223372036854775808) : IntKind.i64.wrap n = n := by
  unfold IntKind.wrap
  simp [IntKind.bits, IntKind.signed]
  split <;> omega

theorem wrap_u64 (n : Int) (h1 : 0 ≤ n) (h2 : n < 18446744073709551616) : IntKind.u64.wrap n = n := by
  unfold IntKind.wrap
  simp [IntKind.bits, IntKind.signed]
  omega

theorem wrap_u8 (n : Int) (h1 : 0 ≤ n) (h2 : n < 256) : IntKind.u8.wrap n = n := by
  unfold IntKind.wrap
  simp [IntKind.bits, IntKind.signed]
  omega


section
variable (n m : Nat)
@[simp] theorem lit_lt : (no_index (OfNat.ofNat n : Int) < (m : Int)) ↔ (OfNat.ofNat n : Nat) < m := Int.ofNat_lt
@[simp] theorem lt_lit : ((m : Int) < no_index (OfNat.ofNat n : Int)) ↔ m < (OfNat.ofNat n : Nat) := Int.ofNat_lt
@[simp] theorem lit_le : (no_index (OfNat.ofNat n : Int) ≤ (m : Int)) ↔ (OfNat.ofNat n : Nat) ≤ m := Int.ofNat_le
@[simp] theorem le_lit : ((m : Int) ≤ no_index (OfNat.ofNat n : Int)) ↔ m ≤ (OfNat.ofNat n : Nat) := Int.ofNat_le
@[simp] theorem lit_eq : (no_index (OfNat.ofNat n : Int) = (m : Int)) ↔ (OfNat.ofNat n : Nat) = m := Int.ofNat_inj
@[simp] theorem eq_lit : ((m : Int) = no_index (OfNat.ofNat n : Int)) ↔ m = (OfNat.ofNat n : Nat) := Int.ofNat_inj
end

def strs (l : List (List UInt8)) : List AV := l.map .str
@[simp] theorem strs_length (l : List (List UInt8)) : (strs l).length = l.length := by simp [strs]
@[simp] theorem strs_get (l : List (List UInt8)) (i : Nat) : (strs l)[i]? = l[i]?.map .str := by simp [strs]
@[simp] theorem strs_getE (l : List (List UInt8)) (i : Nat) (h : i < (strs l).length) : (strs l)[i] = .str (l[i]'(by simpa using h)) := by simp [strs]
@[simp] theorem strs_append (l k : List (List UInt8)) : strs l ++ strs k = strs (l ++ k) := by simp [strs]
@[simp] theorem strs_snoc (l : List (List UInt8)) (s : List UInt8) : strs l ++ [.str s] = strs (l ++ [s]) := by simp [strs]

def u64s (l : List Nat) : List AV := l.map fun (n : Nat) => .int .u64 (n : Int)
@[simp] theorem u64s_length (l : List Nat) : (u64s l).length = l.length := by simp [u64s]
@[simp] theorem u64s_getE (l : List Nat) (i : Nat) (h : i < (u64s l).length) : (u64s l)[i] = .int .u64 ((l[i]'(by simpa using h) : Nat) : Int) := by simp [u64s]
@[simp] theorem u64s_snoc (l : List Nat) (n : Nat) : u64s l ++ [.int .u64 (n : Int)] = u64s (l ++ [n]) := by simp [u64s]
@[simp] theorem u64s_nil : ([] : List AV) = u64s [] ↔ True := by simp [u64s]

def bools (l : List Bool) : List AV := l.map .bool
@[simp] theorem bools_length (l : List Bool) : (bools l).length = l.length := by simp [bools]
@[simp] theorem bools_getE (l : List Bool) (i : Nat) (h : i < (bools l).length) : (bools l)[i] = .bool (l[i]'(by simpa using h)) := by simp [bools]
@[simp] theorem bools_set (l : List Bool) (i : Nat) (b : Bool) : (bools l).set i (.bool b) = bools (l.set i b) := by simp [bools]

theorem isStrs_strs (l : List (List UInt8)) : isStrs (strs l) = true := by
  induction l with
  | nil => rfl
  | cons s l ih => simpa [strs, isStrs] using ih

theorem strOf_strs (l : List (List UInt8)) : (strs l).map strOf = l := by
  induction l with
  | nil => rfl
  | cons s l ih => simp only [strs, List.map_cons, strOf] at ih ⊢; rw [ih]

end Go.VS
/- From what a law comes to over the interpreter to the model's calls. -/
namespace Go.VS
open Go.RowKit

theorem okWide_slice_spot {P : Program} {w : World} {r : Reach} {base : Nat} {t e : TypeId} {v : Value} (ht : P.underlying t = some (.slice e)) (h : Value.okWide P w r base t v) :
    ∃ a len cap, v = .slice a len cap ∧ ∀ x, a = some x → x.spot = none := by
  simp only [Value.okWide, ht, Cell.okWide] at h
  cases v with
  | slice a len cap =>
    refine ⟨a, len, cap, rfl, fun x hx => ?_⟩
    subst hx
    simp only [Cell.ok, ht] at h
    exact h.2.2.2.1
  | _ => simp_all [Cell.ok]

/-- A world that nothing of is owned; all its cells stay. -/
def start (w : World) : Mem := { own := fun _ => none, S := fun b j => (cellAt w b j).isSome = true, G := fun _ => none, w := w }

theorem start_wf (w : World) : (start w).Wf := ⟨fun _ _ h => h, fun _ _ h => by simp [start] at h, fun _ _ h => by simp [start] at h⟩

theorem start_store (w : World) : StoreRep (start w) [] := ⟨fun _ _ h => by simp at h, fun _ _ h => by simp [start] at h⟩

theorem start_below {w : World} {M' : Mem} (h : Evo (start w) M') : Below w.heap.size w M'.w :=
  ⟨h.os, h.tape, h.output, h.size, fun k hk => h.same k hk rfl⟩

/-- A law that is true over the interpreter is true of the model; what lay before the call lies as it lay. -/
theorem law_calls {P : Program} {AP : FuncId → Option AFn} {RP : FuncId → Option (List AV → Option AV)} (hT : ∀ f fn, AP f = some (.code fn) → FnT P f fn) (hP : ∀ f p, AP f = some (.prim p) → FnOk P (fun _ vs store => p vs store) f)
    {f : FuncId} {vs : List AV} {b : Bool} (h : denF AP RP f vs [] = some (.bool b, [])) {w : World} {args : List Value} (hA : ArgsRep (start w) vs args) :
    Calls P f args.toArray w fun e w' => e = .returned (.bool b) ∧ Below w.heap.size w w' := by
  refine ((denF_runs.1 h).calls hT hP (start_wf w) (fun b k hk => by simp [start] at hk) hA (start_store w)).mono ?_
  rintro e w' ⟨v, M', rfl, rfl, he, _, hr, _⟩
  simp only [ResRep, TRep, Has, RepV, Rep, List.cons.injEq, and_true] at hr
  subst hr
  exact ⟨rfl, start_below he⟩

/-- A slice of strings that can be read. -/
theorem start_strs {w : World} {a : Option Addr} {len cap : Nat} {ss : List (List UInt8)} (hlen : ss.length = len) (h : (a = none ∧ len = 0 ∧ cap = 0) ∨ ∃ x, a = some x ∧ x.spot = none ∧ len ≤ cap ∧ ∀ i s, ss[i]? = some s → w.cell? (x.add i) = some (.string ⟨s.toArray⟩)) :
    RepV (start w).S (start w).G (start w).w (.sl .none 1 (ss.map .str)) (.slice a len cap) := by
  simp only [RepV, Rep, List.cons.injEq, and_true]
  rcases h with ⟨rfl, rfl, rfl⟩ | ⟨⟨b, o, sp⟩, rfl, hsp, hc, hcell⟩
  · exact .inl ⟨rfl, by simpa using List.eq_nil_of_length_eq_zero hlen⟩
  · simp only at hsp
    subst hsp
    refine .inr ⟨b, o, cap, by simp [hlen], by simpa [hlen] using hc, fun j hj => ?_, ?_⟩
    · have hj' : j < ss.length := by simpa using hj
      have := hcell j _ (List.getElem?_eq_getElem hj')
      show (cellAt w b (o + j)).isSome = true
      simp only [cellAt]
      rw [Addr.add_lit] at this
      rw [this]; rfl
    · have : ∀ (l : List (List UInt8)) (o : Nat), (∀ i s, l[i]? = some s → w.cell? ⟨b, o + i, none⟩ = some (.string ⟨s.toArray⟩)) → Els (start w).S (start w).G (start w).w b 1 o (l.map .str) := by
        intro l
        induction l with
        | nil => intro o _; simp [Els]
        | cons s l ih =>
          intro o hl
          refine ⟨⟨[.string ⟨s.toArray⟩], rfl, ⟨by simpa [cellAt, start] using hl 0 s rfl, trivial⟩, by simp [Rep]⟩, ih _ fun i s' hs => ?_⟩
          have := hl (i + 1) s' (by simpa using hs)
          rwa [show o + (i + 1) = o + 1 + i by omega] at this
      exact this ss o fun i s hs => by have := hcell i s hs; rwa [Addr.add_lit] at this

theorem args1 {M : Mem} {x : AV} {v : Value} (hg : Good x) (h : Has M (.r 0) x v) : ArgsRep M [x] [v] := by
  refine ⟨rfl, fun j y hj => ?_⟩
  cases j with
  | zero => simp only [List.getElem?_cons_zero, Option.some.injEq] at hj; subst hj; exact ⟨hg, v, rfl, h⟩
  | succ j => simp at hj

theorem args2 {M : Mem} {x y : AV} {v u : Value} (hg : Good x) (h : Has M (.r 0) x v) (hg' : Good y) (h' : Has M (.r 1) y u) : ArgsRep M [x, y] [v, u] := by
  refine ⟨rfl, fun j z hj => ?_⟩
  cases j with
  | zero => simp only [List.getElem?_cons_zero, Option.some.injEq] at hj; subst hj; exact ⟨hg, v, rfl, h⟩
  | succ j =>
    cases j with
    | zero => simp only [List.getElem?_cons_succ, List.getElem?_cons_zero, Option.some.injEq] at hj; subst hj; exact ⟨hg', u, rfl, h'⟩
    | succ j => simp at hj
end Go.VS
