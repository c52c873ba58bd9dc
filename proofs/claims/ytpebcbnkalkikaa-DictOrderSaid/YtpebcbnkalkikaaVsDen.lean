/- What code, a call comes to, as an equation: the interpreter's limit. -/
import Derived.Test.YtpebcbnkalkikaaVsRun2
set_option linter.unusedVariables false
namespace Go.VS

section
variable (AP : FuncId → Option AFn) (RP : FuncId → Option (List AV → Option AV))

open Classical in
/-- What a piece of code comes to. -/
noncomputable def den : CodeSem := fun c st => if h : ∃ r N, evalC AP RP N c st = some r then some h.choose else none
open Classical in
/-- What a call comes to. -/
noncomputable def denF : CallSem := fun f vs s => if h : ∃ r N, evalF AP RP N f vs s = some r then some h.choose else none
end

section
variable {AP : FuncId → Option AFn} {RP : FuncId → Option (List AV → Option AV)}

theorem den_of {N : Nat} {c : AC} {st : St} {r : Out × St} (h : evalC AP RP N c st = some r) : den AP RP c st = some r := by
  have hex : ∃ r N, evalC AP RP N c st = some r := ⟨r, N, h⟩
  unfold den
  rw [dif_pos hex]
  obtain ⟨K, hK⟩ := hex.choose_spec
  have h1 := evalC_le (Nat.le_max_left N K) _ _ _ h
  have h2 := evalC_le (Nat.le_max_right N K) _ _ _ hK
  rw [h1] at h2
  exact h2.symm

theorem of_den {c : AC} {st : St} {r : Out × St} (h : den AP RP c st = some r) : ∃ N, evalC AP RP N c st = some r := by
  unfold den at h
  split at h
  · rename_i hex
    simp only [Option.some.injEq] at h
    obtain ⟨N, hN⟩ := hex.choose_spec
    exact ⟨N, by rw [hN, h]⟩
  · simp at h

theorem denF_of {N : Nat} {f : FuncId} {vs : List AV} {s : List Obj} {r : AV × List Obj} (h : evalF AP RP N f vs s = some r) : denF AP RP f vs s = some r := by
  have hex : ∃ r N, evalF AP RP N f vs s = some r := ⟨r, N, h⟩
  unfold denF
  rw [dif_pos hex]
  obtain ⟨K, hK⟩ := hex.choose_spec
  have h1 := evalF_le (Nat.le_max_left N K) _ _ _ _ h
  have h2 := evalF_le (Nat.le_max_right N K) _ _ _ _ hK
  rw [h1] at h2
  exact h2.symm

theorem of_denF {f : FuncId} {vs : List AV} {s : List Obj} {r : AV × List Obj} (h : denF AP RP f vs s = some r) : ∃ N, evalF AP RP N f vs s = some r := by
  unfold denF at h
  split at h
  · rename_i hex
    simp only [Option.some.injEq] at h
    obtain ⟨N, hN⟩ := hex.choose_spec
    exact ⟨N, by rw [hN, h]⟩
  · simp at h

theorem denF_runs {f : FuncId} {vs : List AV} {s s' : List Obj} {r : AV} : denF AP RP f vs s = some (r, s') ↔ FRuns AP RP f vs s r s' :=
  ⟨of_denF, fun ⟨N, h⟩ => denF_of h⟩

theorem evalF_den (N : Nat) : CSle (evalF AP RP N) (denF AP RP) := fun _ _ _ _ h => denF_of h
theorem evalC_den (N : Nat) : CCle (evalC AP RP N) (den AP RP) := fun _ _ _ h => den_of h

theorem runOp_fin : ∀ {op : AOp} {st st' : St}, runOp (denF AP RP) RP st op = some st' → ∃ N, runOp (evalF AP RP N) RP st op = some st' := by
  intro op
  induction op with
  | call d f args =>
    intro st st' hr
    simp only [runOp] at hr ⊢
    split at hr
    · rename_i vs st1 hp
      split at hr
      · rename_i r s' hc
        obtain ⟨N, hN⟩ := of_denF hc
        refine ⟨N, ?_⟩
        rw [hN]
        exact hr
      · simp at hr
    · simp at hr
  | callo d f x =>
    intro st st' hr
    simp only [runOp] at hr ⊢
    split at hr
    · rename_i v st1 hp
      split at hr
      · rename_i r s' hc
        obtain ⟨N, hN⟩ := of_denF hc
        refine ⟨N, ?_⟩
        rw [hN]
        exact hr
      · simp at hr
    · simp at hr
  | callv d f args =>
    intro st st' hr
    simp only [runOp] at hr ⊢
    split at hr
    · rename_i k caps vs st1 hf hp
      split at hr
      · rename_i hpl
        split at hr
        · rename_i r s' hc
          obtain ⟨N, hN⟩ := of_denF hc
          refine ⟨N, ?_⟩
          rw [if_pos hpl, hN]
          exact hr
        · simp at hr
      · simp at hr
    · simp at hr
  | g x want ds op ih =>
    intro st st' hr
    simp only [runOp] at hr ⊢
    split at hr
    · split at hr
      · rename_i hb
        obtain ⟨N, hN⟩ := ih hr
        exact ⟨N, by rw [if_pos hb]; exact hN⟩
      · rename_i hb; exact ⟨0, by rw [if_neg hb]; exact hr⟩
    · exact ⟨0, hr⟩
    · simp at hr
  | _ => intro st st' hr; simp only [runOp] at hr ⊢; exact ⟨0, hr⟩

theorem runOps_fin : ∀ {l : List AOp} {st st' : St}, runOps (denF AP RP) RP st l = some st' → ∃ N, runOps (evalF AP RP N) RP st l = some st'
  | [], _, _, hr => ⟨0, by simpa [runOps] using hr⟩
  | o :: os, st, st', hr => by
    obtain ⟨st1, h1, h2⟩ := runOps_cons hr
    exact or_cons (runOp_fin h1) (runOps_fin h2)

theorem opt_ext {α : Type} {a b : Option α} (h : ∀ r, a = some r ↔ b = some r) : a = b := by
  cases a with
  | some x => exact ((h x).1 rfl).symm
  | none =>
    cases b with
    | none => rfl
    | some y => exact (h y).2 rfl

theorem of_cruns {c : AC} {st st' : St} {out : Out} (h : CRuns AP RP c st out st') : den AP RP c st = some (out, st') := by
  obtain ⟨N, h⟩ := h; exact den_of h

theorem cruns_of {c : AC} {st st' : St} {out : Out} (h : den AP RP c st = some (out, st')) : CRuns AP RP c st out st' := of_den h

/-- The interpreter's limit is its own step. -/
theorem den_step (c : AC) (st : St) : den AP RP c st = stepC (denF AP RP) RP (den AP RP) c st := by
  refine opt_ext fun r => ⟨fun h => ?_, fun h => ?_⟩
  · obtain ⟨N, h⟩ := of_den h
    cases N with
    | zero => simp [evalC] at h
    | succ N =>
      rw [evalC] at h
      exact stepC_mono (A := runF AP (evalC AP RP N)) (fun f vs s r hh => denF_of (N := N) hh) (evalC_den N) _ _ _ h
  · obtain ⟨out, st'⟩ := r
    cases c with
    | skip => simp only [stepC, Option.some.injEq, Prod.mk.injEq] at h; obtain ⟨rfl, rfl⟩ := h; exact of_cruns cr_skip
    | label l => simp only [stepC, Option.some.injEq, Prod.mk.injEq] at h; obtain ⟨rfl, rfl⟩ := h; exact of_cruns cr_label
    | goto l => simp only [stepC, Option.some.injEq, Prod.mk.injEq] at h; obtain ⟨rfl, rfl⟩ := h; exact of_cruns cr_goto
    | exit l => simp only [stepC, Option.some.injEq, Prod.mk.injEq] at h; obtain ⟨rfl, rfl⟩ := h; exact of_cruns cr_exit
    | ret => simp only [stepC, Option.some.injEq, Prod.mk.injEq] at h; obtain ⟨rfl, rfl⟩ := h; exact of_cruns cr_ret
    | frz i c =>
      simp only [stepC] at h
      split at h
      · rename_i m s xs hi; exact of_cruns (cr_frz hi (cruns_of h))
      · simp at h
    | ops dr l =>
      simp only [stepC] at h
      split at h
      · rename_i st1 h1
        simp only [Option.some.injEq, Prod.mk.injEq] at h
        obtain ⟨rfl, rfl⟩ := h
        exact of_cruns (cr_opsO (runOps_fin h1) rfl)
      · simp at h
    | ite c a b =>
      simp only [stepC] at h
      split at h
      · rename_i t hc
        refine of_cruns (cr_ite hc (cruns_of ?_))
        cases t <;> simpa using h
      · simp at h
    | seq a b =>
      simp only [stepC] at h
      split at h
      · rename_i st1 h1
        exact of_cruns (cr_seq (cruns_of h1) (cruns_of h))
      · rename_i hx
        refine of_cruns (cr_seq_out (cruns_of h) ?_)
        rintro rfl
        exact hx _ h
    | block id c =>
      simp only [stepC] at h
      split at h
      · rename_i id' st1 h1
        have := cr_block (id := id) (cruns_of h1)
        split at h
        · rename_i e
          simp only [Option.some.injEq, Prod.mk.injEq] at h
          obtain ⟨rfl, rfl⟩ := h
          subst e
          simpa using of_cruns this
        · rename_i e
          simp only [Option.some.injEq, Prod.mk.injEq] at h
          obtain ⟨rfl, rfl⟩ := h
          simpa [e] using of_cruns this
      · rename_i hx
        have := cr_block (id := id) (cruns_of h)
        rw [if_neg (by rintro rfl; exact hx _ _ h)] at this
        exact of_cruns this
    | loop ks c =>
      simp only [stepC] at h
      split at h
      · rename_i st1 h1
        exact of_cruns (cr_loop (cruns_of h1) (cruns_of h))
      · rename_i hx
        refine of_cruns (cr_loop_out (cruns_of h) ?_)
        rintro rfl
        exact hx _ h
    | sc ks c => simp only [stepC] at h; exact of_cruns (cr_sc (cruns_of h))
    | scope ks c cur =>
      simp only [stepC] at h
      split at h
      · rename_i l st1 h1
        split at h
        · rename_i r hl
          exact of_cruns (cr_scope_goto (cruns_of h1) hl (cruns_of h))
        · rename_i hl
          simp only [Option.some.injEq, Prod.mk.injEq] at h
          obtain ⟨rfl, rfl⟩ := h
          obtain ⟨N, h1⟩ := of_den h1
          refine den_of (N := N + 1) ?_
          rw [evalC]
          simp only [stepC, h1, hl]
      · rename_i hx
        refine of_cruns (cr_scope (cruns_of h) ?_)
        rintro l rfl
        exact hx _ _ h

section
variable {st st' : St}
theorem den_skip : den AP RP .skip st = some (.norm, st) := by rw [den_step]; rfl
theorem den_label {l : Nat} : den AP RP (.label l) st = some (.norm, st) := by rw [den_step]; rfl
theorem den_goto {l : Nat} : den AP RP (.goto l) st = some (.goto l, st) := by rw [den_step]; rfl
theorem den_exit {l : Nat} : den AP RP (.exit l) st = some (.exit l, st) := by rw [den_step]; rfl
theorem den_ret : den AP RP .ret st = some (.ret, st) := by rw [den_step]; rfl
theorem den_ops {dr : Bool} {l : List AOp} : den AP RP (.ops dr l) st = match runOps (denF AP RP) RP st l with | some st' => some (.norm, if dr then drop st' else st') | none => none := by rw [den_step]; rfl
theorem den_ite {c : Ref} {a b : AC} : den AP RP (.ite c a b) st = match rd st c with | .bool t => if t then den AP RP a (drop st) else den AP RP b (drop st) | _ => none := by rw [den_step]; rfl
theorem den_seq {a b : AC} : den AP RP (.seq a b) st = match den AP RP a st with | some (.norm, st') => den AP RP b st' | r => r := by rw [den_step]; rfl
theorem den_block {id : Nat} {c : AC} : den AP RP (.block id c) st = match den AP RP c st with | some (.exit id', st') => if id' = id then some (.norm, st') else some (.exit id', st') | r => r := by rw [den_step]; rfl
theorem den_loop {ks : List Nat} {c : AC} : den AP RP (.loop ks c) st = match den AP RP c (killV st ks) with | some (.norm, st') => den AP RP (.loop ks c) st' | r => r := by rw [den_step]; rfl
theorem den_sc {ks : List Nat} {c : AC} : den AP RP (.sc ks c) st = den AP RP (.scope ks c c) st := by rw [den_step]; rfl
theorem den_scope {ks : List Nat} {c cur : AC} : den AP RP (.scope ks c cur) st = match den AP RP cur st with
    | some (.goto l, st') => (match findL c l with | some r => den AP RP (.scope ks c r) (killV st' ks) | none => some (.goto l, st'))
    | r => r := by rw [den_step]; rfl
theorem den_frz {i : Nat} {c : AC} : den AP RP (.frz i c) st = match st.vars[i]? with | some (.sl (.own _) s xs) => den AP RP c (setV st i (.sl (.own false) s xs)) | _ => none := by rw [den_step]; rfl
end

/-- A call of a function of the table. -/
theorem denF_code {f : FuncId} {fn : AFunc} {vs : List AV} {s : List Obj} (hf : AP f = some (.code fn)) : denF AP RP f vs s =
    if vs.length ≤ fn.n && vs.all plain then match den AP RP fn.body (enter fn vs s) with
      | some (.norm, st) => leave fn st
      | some (.ret, st) => leave fn st
      | _ => none
    else none := by
  refine opt_ext fun r => ⟨fun h => ?_, fun h => ?_⟩
  · obtain ⟨N, h⟩ := of_denF h
    have h' : runF AP (evalC AP RP N) f vs s = some r := h
    have := runF_mono (AP := AP) (evalC_den (AP := AP) (RP := RP) N) _ _ _ _ h'
    simp only [runF, hf] at this
    exact this
  · split at h
    · rename_i hl
      split at h
      · rename_i st h1
        exact denF_runs.2 (fr_code hf hl (cruns_of h1) (.inl rfl) h)
      · rename_i st h1
        exact denF_runs.2 (fr_code hf hl (cruns_of h1) (.inr rfl) h)
      · simp at h
    · simp at h

theorem denF_prim {f : FuncId} {p : List AV → List Obj → Option (AV × List Obj)} {vs : List AV} {s : List Obj} (hf : AP f = some (.prim p)) : denF AP RP f vs s = p vs s := by
  refine opt_ext fun r => ⟨fun h => ?_, fun h => ?_⟩
  · obtain ⟨N, h⟩ := of_denF h
    have h' : runF AP (evalC AP RP N) f vs s = some r := h
    simpa only [runF, hf] using h'
  · exact denF_runs.2 (fr_prim hf h)

/-- A call that the kernel can reckon. -/
theorem denF_eval {N : Nat} {f : FuncId} {vs : List AV} {s : List Obj} {r : AV × List Obj} (h : evalF AP RP N f vs s = some r) : denF AP RP f vs s = some r := denF_of h
end
end Go.VS
