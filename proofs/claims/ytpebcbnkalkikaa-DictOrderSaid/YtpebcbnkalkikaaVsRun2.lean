/- Operations whose calls are known. -/
import Derived.Test.YtpebcbnkalkikaaVsRun
set_option linter.unusedVariables false
namespace Go.VS

section
variable (AP : FuncId → Option AFn) (RP : FuncId → Option (List AV → Option AV))
/-- Operations come to this. -/
def ORuns (st : St) (l : List AOp) (st' : St) : Prop := ∃ N, runOps (evalF AP RP N) RP st l = some st'
end

section
variable {AP : FuncId → Option AFn} {RP : FuncId → Option (List AV → Option AV)} {st st1 st2 st' : St} {l : List AOp}

theorem or_nil : ORuns AP RP st [] st := ⟨0, rfl⟩

theorem or_done (e : st = st') : ORuns AP RP st [] st' := e ▸ or_nil

theorem runOps_app {CS : CallSem} : ∀ {l k : List AOp} {st : St}, runOps CS RP st (l ++ k) = (runOps CS RP st l).bind fun s => runOps CS RP s k
  | [], k, st => by simp [runOps]
  | o :: os, k, st => by
    simp only [List.cons_append, runOps]
    split
    · exact runOps_app
    · rfl

/-- The first k: no call among them. -/
theorem or_take (k : Nat) (h : runOps (fun _ _ _ => none) RP st (l.take k) = some st1) (r : ORuns AP RP st1 (l.drop k) st') : ORuns AP RP st l st' := by
  obtain ⟨N, r⟩ := r
  refine ⟨N, ?_⟩
  rw [← List.take_append_drop k l, runOps_app, runOps_mono (B := evalF AP RP N) (fun f vs s r hr => by simp at hr) h]
  exact r

theorem or_cons {o : AOp} (h : ∃ N, runOp (evalF AP RP N) RP st o = some st1) (r : ORuns AP RP st1 l st') : ORuns AP RP st (o :: l) st' := by
  obtain ⟨N, h⟩ := h
  obtain ⟨K, r⟩ := r
  refine ⟨max N K, ?_⟩
  simp only [runOps, runOp_mono (evalF_le (Nat.le_max_left N K)) h]
  exact runOps_mono (evalF_le (Nat.le_max_right N K)) r

theorem or_call {d : Dst} {f : FuncId} {args : List Ref} {vs : List AV} {r : AV} {s' : List Obj} (hp : persL st args = some (vs, st1)) (hf : FRuns AP RP f vs st1.store r s') (hput : put { st1 with store := s', tmps := unG st1.tmps } d r = some st2)
    (h : ORuns AP RP st2 l st') : ORuns AP RP st (.call d f args :: l) st' := by
  obtain ⟨N, hf⟩ := hf
  exact or_cons ⟨N, by simp only [runOp, hp, hf, hput]⟩ h

theorem or_callo {d : Dst} {f : FuncId} {x : Ref} {v r : AV} {s' : List Obj} (hp : give st x = some (v, st1)) (hf : FRuns AP RP f [v] st1.store r s') (hput : put { st1 with store := s', tmps := unG st1.tmps } d r = some st2)
    (h : ORuns AP RP st2 l st') : ORuns AP RP st (.callo d f x :: l) st' := by
  obtain ⟨N, hf⟩ := hf
  exact or_cons ⟨N, by simp only [runOp, hp, hf, hput]⟩ h

theorem or_callv {d : Dst} {f : Ref} {k : FuncId} {args : List Ref} {vs caps : List AV} {r : AV} {s' : List Obj} (hk : rd st f = .func k caps) (hp : persL st args = some (vs, st1)) (hc : caps.all plain = true) (hf : FRuns AP RP k (vs ++ caps) st1.store r s')
    (hput : put { st1 with store := s', tmps := unG st1.tmps } d r = some st2) (h : ORuns AP RP st2 l st') : ORuns AP RP st (.callv d f args :: l) st' := by
  obtain ⟨N, hf⟩ := hf
  exact or_cons ⟨N, by simp only [runOp, hk, hp, hc, if_true, hf, hput]⟩ h

/-- A guarded operation that is wanted; that is not. -/
theorem or_g {x : Ref} {want : Bool} {ds : List Dst} {o : AOp} (hx : rd st x = .bool want) (h : ORuns AP RP st (o :: l) st') : ORuns AP RP st (.g x want ds o :: l) st' := by
  obtain ⟨N, h⟩ := h
  obtain ⟨st1, h1, h2⟩ := runOps_cons h
  exact or_cons ⟨N, by simp only [runOp, hx, if_true, h1]⟩ ⟨N, h2⟩

theorem or_g_not {x : Ref} {want b : Bool} {ds : List Dst} {o : AOp} (hx : rd st x = .bool b) (hb : b ≠ want) (hd : skipD st ds = some st1) (h : ORuns AP RP st1 l st') : ORuns AP RP st (.g x want ds o :: l) st' :=
  or_cons ⟨0, by simp only [runOp, hx, if_neg hb, hd]⟩ h

theorem or_g_none {x : Ref} {want : Bool} {ds : List Dst} {o : AOp} (hx : rd st x = .tup []) (hd : skipD st ds = some st1) (h : ORuns AP RP st1 l st') : ORuns AP RP st (.g x want ds o :: l) st' :=
  or_cons ⟨0, by simp only [runOp, hx, hd]⟩ h

/-- A region of operations whose calls are known. -/
theorem cr_opsO {dr : Bool} (h : ORuns AP RP st l st1) (e : (if dr then drop st1 else st1) = st2) : CRuns AP RP (.ops dr l) st .norm st2 := by
  obtain ⟨N, h⟩ := h
  subst e
  refine ⟨N + 1, ?_⟩
  rw [evalC]
  simp only [stepC]
  have : runOps (runF AP (evalC AP RP N)) RP st l = some st1 := h
  rw [this]

end
end Go.VS
