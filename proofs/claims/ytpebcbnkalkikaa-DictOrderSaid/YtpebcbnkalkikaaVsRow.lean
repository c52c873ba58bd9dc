/- From what a law comes to over the interpreter to the model's calls. -/
import Derived.Test.YtpebcbnkalkikaaVsDen
import Derived.Below
import Derived.WideShapes
namespace Go.VS
open Go.RowKit

theorem okWide_slice_spot {P : Program} {w : World} {r : Reach} {base : Nat} {t e : TypeId} {v : Value} (ht : P.underlying t = some (.slice e)) (h : Value.okWide P w r base t v) :
    ∃ a len cap, v = .slice a len cap ∧ ∀ x, a = some x → x.spot = none := by
  simp only [Value.okWide, ht, Cell.okWide] at h
  cases v with
  | slice a len cap =>
    refine ⟨a, len, cap, rfl, fun x hx => ?_⟩
    subst hx
    simp only [Cell.ok, ht] at h
    exact h.2.2.2.1
  | _ => simp_all [Cell.ok]

/-- A world that nothing of is owned; all its cells stay. -/
def start (w : World) : Mem := { own := fun _ => none, S := fun b j => (cellAt w b j).isSome = true, G := fun _ => none, w := w }

theorem start_wf (w : World) : (start w).Wf := ⟨fun _ _ h => h, fun _ _ h => by simp [start] at h, fun _ _ h => by simp [start] at h⟩

theorem start_store (w : World) : StoreRep (start w) [] := ⟨fun _ _ h => by simp at h, fun _ _ h => by simp [start] at h⟩

theorem start_below {w : World} {M' : Mem} (h : Evo (start w) M') : Below w.heap.size w M'.w :=
  ⟨h.os, h.tape, h.output, h.size, fun k hk => h.same k hk rfl⟩

/-- A law that is true over the interpreter is true of the model; what lay before the call lies as it lay. -/
theorem law_calls {P : Program} {AP : FuncId → Option AFn} {RP : FuncId → Option (List AV → Option AV)} (hT : ∀ f fn, AP f = some (.code fn) → FnT P f fn) (hP : ∀ f p, AP f = some (.prim p) → FnOk P (fun _ vs store => p vs store) f)
    {f : FuncId} {vs : List AV} {b : Bool} (h : denF AP RP f vs [] = some (.bool b, [])) {w : World} {args : List Value} (hA : ArgsRep (start w) vs args) :
    Calls P f args.toArray w fun e w' => e = .returned (.bool b) ∧ Below w.heap.size w w' := by
  refine ((denF_runs.1 h).calls hT hP (start_wf w) (fun b k hk => by simp [start] at hk) hA (start_store w)).mono ?_
  rintro e w' ⟨v, M', rfl, rfl, he, _, hr, _⟩
  simp only [ResRep, TRep, Has, RepV, Rep, List.cons.injEq, and_true] at hr
  subst hr
  exact ⟨rfl, start_below he⟩

/-- A slice of strings that can be read. -/
theorem start_strs {w : World} {a : Option Addr} {len cap : Nat} {ss : List (List UInt8)} (hlen : ss.length = len) (h : (a = none ∧ len = 0 ∧ cap = 0) ∨ ∃ x, a = some x ∧ x.spot = none ∧ len ≤ cap ∧ ∀ i s, ss[i]? = some s → w.cell? (x.add i) = some (.string ⟨s.toArray⟩)) :
    RepV (start w).S (start w).G (start w).w (.sl .none 1 (ss.map .str)) (.slice a len cap) := by
  simp only [RepV, Rep, List.cons.injEq, and_true]
  rcases h with ⟨rfl, rfl, rfl⟩ | ⟨⟨b, o, sp⟩, rfl, hsp, hc, hcell⟩
  · exact .inl ⟨rfl, by simpa using List.eq_nil_of_length_eq_zero hlen⟩
  · simp only at hsp
    subst hsp
    refine .inr ⟨b, o, cap, by simp [hlen], by simpa [hlen] using hc, fun j hj => ?_, ?_⟩
    · have hj' : j < ss.length := by simpa using hj
      have := hcell j _ (List.getElem?_eq_getElem hj')
      show (cellAt w b (o + j)).isSome = true
      simp only [cellAt]
      rw [Addr.add_lit] at this
      rw [this]; rfl
    · have : ∀ (l : List (List UInt8)) (o : Nat), (∀ i s, l[i]? = some s → w.cell? ⟨b, o + i, none⟩ = some (.string ⟨s.toArray⟩)) → Els (start w).S (start w).G (start w).w b 1 o (l.map .str) := by
        intro l
        induction l with
        | nil => intro o _; simp [Els]
        | cons s l ih =>
          intro o hl
          refine ⟨⟨[.string ⟨s.toArray⟩], rfl, ⟨by simpa [cellAt, start] using hl 0 s rfl, trivial⟩, by simp [Rep]⟩, ih _ fun i s' hs => ?_⟩
          have := hl (i + 1) s' (by simpa using hs)
          rwa [show o + (i + 1) = o + 1 + i by omega] at this
      exact this ss o fun i s hs => by have := hcell i s hs; rwa [Addr.add_lit] at this

theorem args1 {M : Mem} {x : AV} {v : Value} (hg : Good x) (h : Has M (.r 0) x v) : ArgsRep M [x] [v] := by
  refine ⟨rfl, fun j y hj => ?_⟩
  cases j with
  | zero => simp only [List.getElem?_cons_zero, Option.some.injEq] at hj; subst hj; exact ⟨hg, v, rfl, h⟩
  | succ j => simp at hj
end Go.VS
