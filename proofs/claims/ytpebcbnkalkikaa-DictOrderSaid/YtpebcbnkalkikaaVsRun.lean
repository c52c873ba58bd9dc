/- More fuel tells no less. What a call comes to, whatever the fuel. -/
import Derived.Test.YtpebcbnkalkikaaVsChk2
set_option linter.unusedVariables false
namespace Go.VS

def CSle (A B : CallSem) : Prop := ∀ f vs s r, A f vs s = some r → B f vs s = some r
def CCle (A B : CodeSem) : Prop := ∀ c st r, A c st = some r → B c st = some r

section
variable {A B : CallSem} {RP : FuncId → Option (List AV → Option AV)}

theorem runOp_mono (h : CSle A B) : ∀ {op : AOp} {st st' : St}, runOp A RP st op = some st' → runOp B RP st op = some st' := by
  intro op
  induction op with
  | call d f args =>
    intro st st' hr
    simp only [runOp] at hr ⊢
    split at hr
    · rename_i vs st1 hp
      split at hr
      · rename_i r s' hc
        rw [h _ _ _ _ hc]
        exact hr
      · simp at hr
    · simp at hr
  | callo d f x =>
    intro st st' hr
    simp only [runOp] at hr ⊢
    split at hr
    · rename_i v st1 hp
      split at hr
      · rename_i r s' hc
        rw [h _ _ _ _ hc]
        exact hr
      · simp at hr
    · simp at hr
  | callv d f args =>
    intro st st' hr
    simp only [runOp] at hr ⊢
    split at hr
    · rename_i k caps vs st1 hf hp
      split at hr
      · rename_i hpl
        rw [if_pos hpl]
        split at hr
        · rename_i r s' hc
          rw [h _ _ _ _ hc]
          exact hr
        · simp at hr
      · simp at hr
    · simp at hr
  | g x want ds op ih =>
    intro st st' hr
    simp only [runOp] at hr ⊢
    split at hr
    · split at hr
      · rename_i hb; rw [if_pos hb]; exact ih hr
      · rename_i hb; rw [if_neg hb]; exact hr
    · exact hr
    · simp at hr
  | _ => intro st st' hr; simp only [runOp] at hr ⊢; exact hr

theorem runOps_mono (h : CSle A B) : ∀ {l : List AOp} {st st' : St}, runOps A RP st l = some st' → runOps B RP st l = some st'
  | [], _, _, hr => by simpa [runOps] using hr
  | o :: os, st, st', hr => by
    obtain ⟨st1, h1, h2⟩ := runOps_cons hr
    simp only [runOps, runOp_mono h h1]
    exact runOps_mono h h2

theorem stepC_mono (h : CSle A B) {C D : CodeSem} (k : CCle C D) : CCle (stepC A RP C) (stepC B RP D) := by
  intro c st r hr
  cases c with
  | frz i c =>
    simp only [stepC] at hr ⊢
    split at hr
    · exact k _ _ _ hr
    · simp at hr
  | ops dr l =>
    simp only [stepC] at hr ⊢
    split at hr
    · rename_i st1 h1
      rw [runOps_mono h h1]
      exact hr
    · simp at hr
  | ite c a b =>
    simp only [stepC] at hr ⊢
    split at hr
    · split at hr
      · rename_i ht; rw [if_pos ht]; exact k _ _ _ hr
      · rename_i ht; rw [if_neg ht]; exact k _ _ _ hr
    · simp at hr
  | seq a b =>
    simp only [stepC] at hr ⊢
    split at hr
    · rename_i st1 h1
      rw [k _ _ _ h1]
      exact k _ _ _ hr
    · rename_i hx
      rw [k _ _ _ hr]
      obtain ⟨o, s⟩ := r
      cases o with
      | norm => exact absurd hr (hx _)
      | _ => rfl
  | block id c =>
    simp only [stepC] at hr ⊢
    split at hr
    · rename_i id' st1 h1
      rw [k _ _ _ h1]
      exact hr
    · rename_i hx
      rw [k _ _ _ hr]
      obtain ⟨o, s⟩ := r
      cases o with
      | exit id' => exact absurd hr (hx _ _)
      | _ => rfl
  | loop ks c =>
    simp only [stepC] at hr ⊢
    split at hr
    · rename_i st1 h1
      rw [k _ _ _ h1]
      exact k _ _ _ hr
    · rename_i hx
      rw [k _ _ _ hr]
      obtain ⟨o, s⟩ := r
      cases o with
      | norm => exact absurd hr (hx _)
      | _ => rfl
  | sc ks c => simp only [stepC] at hr ⊢; exact k _ _ _ hr
  | scope ks c cur =>
    simp only [stepC] at hr ⊢
    split at hr
    · rename_i l st1 h1
      rw [k _ _ _ h1]
      dsimp only
      split at hr
      · exact k _ _ _ hr
      · exact hr
    · rename_i hx
      rw [k _ _ _ hr]
      obtain ⟨o, s⟩ := r
      cases o with
      | goto l => exact absurd hr (hx _ _)
      | _ => rfl
  | _ => simp only [stepC] at hr ⊢; exact hr

variable {AP : FuncId → Option AFn}

theorem runF_mono {C D : CodeSem} (k : CCle C D) : CSle (runF AP C) (runF AP D) := by
  intro f vs s r hr
  simp only [runF] at hr ⊢
  split at hr
  · split at hr
    · rename_i hc
      rw [if_pos hc]
      split at hr
      · rename_i st h1; rw [k _ _ _ h1]; exact hr
      · rename_i st h1; rw [k _ _ _ h1]; exact hr
      · simp at hr
    · simp at hr
  · exact hr
  · simp at hr

theorem evalC_succ : ∀ N, CCle (evalC AP RP N) (evalC AP RP (N + 1))
  | 0 => fun c st r hr => by simp [evalC] at hr
  | N + 1 => by
    show CCle (stepC (runF AP (evalC AP RP N)) RP (evalC AP RP N)) (stepC (runF AP (evalC AP RP (N + 1))) RP (evalC AP RP (N + 1)))
    exact stepC_mono (runF_mono (evalC_succ N)) (evalC_succ N)

theorem evalC_le {N K : Nat} (h : N ≤ K) : CCle (evalC AP RP N) (evalC AP RP K) := by
  induction h with
  | refl => exact fun _ _ _ h => h
  | step _ ih => exact fun c st r hr => evalC_succ _ _ _ _ (ih c st r hr)

end

section
variable (AP : FuncId → Option AFn) (RP : FuncId → Option (List AV → Option AV))

/-- A piece of code comes to this. -/
def CRuns (c : AC) (st : St) (out : Out) (st' : St) : Prop := ∃ N, evalC AP RP N c st = some (out, st')
/-- A call comes to this. -/
def FRuns (f : FuncId) (vs : List AV) (s : List Obj) (r : AV) (s' : List Obj) : Prop := ∃ N, evalF AP RP N f vs s = some (r, s')
end

section
variable {AP : FuncId → Option AFn} {RP : FuncId → Option (List AV → Option AV)} {st st1 st2 : St}

theorem cr_skip : CRuns AP RP .skip st .norm st := ⟨1, rfl⟩
theorem cr_label {l : Nat} : CRuns AP RP (.label l) st .norm st := ⟨1, rfl⟩
theorem cr_goto {l : Nat} : CRuns AP RP (.goto l) st (.goto l) st := ⟨1, rfl⟩
theorem cr_exit {l : Nat} : CRuns AP RP (.exit l) st (.exit l) st := ⟨1, rfl⟩
theorem cr_ret : CRuns AP RP .ret st .ret st := ⟨1, rfl⟩

theorem cr_frz {i : Nat} {c : AC} {m : Bool} {s : Nat} {xs : List AV} {out : Out} (hi : st.vars[i]? = some (.sl (.own m) s xs)) (h : CRuns AP RP c (setV st i (.sl (.own false) s xs)) out st1) : CRuns AP RP (.frz i c) st out st1 := by
  obtain ⟨N, h⟩ := h
  exact ⟨N + 1, by rw [evalC]; simp only [stepC, hi, h]⟩

theorem cr_seq {a b : AC} {out : Out} (h : CRuns AP RP a st .norm st1) (k : CRuns AP RP b st1 out st2) : CRuns AP RP (.seq a b) st out st2 := by
  obtain ⟨N, h⟩ := h
  obtain ⟨K, k⟩ := k
  refine ⟨max N K + 1, ?_⟩
  rw [evalC]
  simp only [stepC, evalC_le (Nat.le_max_left N K) _ _ _ h, evalC_le (Nat.le_max_right N K) _ _ _ k]

theorem cr_seq_out {a b : AC} {out : Out} (h : CRuns AP RP a st out st1) (ho : out ≠ .norm) : CRuns AP RP (.seq a b) st out st1 := by
  obtain ⟨N, h⟩ := h
  refine ⟨N + 1, ?_⟩
  rw [evalC]
  cases out with
  | norm => exact absurd rfl ho
  | _ => simp only [stepC, h]

theorem cr_ite {c : Ref} {a b : AC} {t : Bool} {out : Out} (hc : rd st c = .bool t) (h : CRuns AP RP (if t then a else b) (drop st) out st1) : CRuns AP RP (.ite c a b) st out st1 := by
  obtain ⟨N, h⟩ := h
  refine ⟨N + 1, ?_⟩
  rw [evalC]
  cases t <;> simp only [stepC, hc, if_true, if_false, Bool.false_eq_true] at h ⊢ <;> exact h

theorem cr_block {id : Nat} {c : AC} {out : Out} (h : CRuns AP RP c st out st1) : CRuns AP RP (.block id c) st (if out = .exit id then .norm else out) st1 := by
  obtain ⟨N, h⟩ := h
  refine ⟨N + 1, ?_⟩
  rw [evalC]
  cases out with
  | exit j =>
    simp only [stepC, h, Out.exit.injEq]
    split <;> rfl
  | _ => simp [stepC, h]

theorem cr_loop {ks : List Nat} {c : AC} {out : Out} (h : CRuns AP RP c (killV st ks) .norm st1) (k : CRuns AP RP (.loop ks c) st1 out st2) : CRuns AP RP (.loop ks c) st out st2 := by
  obtain ⟨N, h⟩ := h
  obtain ⟨K, k⟩ := k
  refine ⟨max N K + 1, ?_⟩
  rw [evalC]
  simp only [stepC, evalC_le (Nat.le_max_left N K) _ _ _ h, evalC_le (Nat.le_max_right N K) _ _ _ k]

theorem cr_loop_out {ks : List Nat} {c : AC} {out : Out} (h : CRuns AP RP c (killV st ks) out st1) (ho : out ≠ .norm) : CRuns AP RP (.loop ks c) st out st1 := by
  obtain ⟨N, h⟩ := h
  refine ⟨N + 1, ?_⟩
  rw [evalC]
  cases out with
  | norm => exact absurd rfl ho
  | _ => simp only [stepC, h]

theorem cr_sc {ks : List Nat} {c : AC} {out : Out} (h : CRuns AP RP (.scope ks c c) st out st1) : CRuns AP RP (.sc ks c) st out st1 := by
  obtain ⟨N, h⟩ := h
  exact ⟨N + 1, by rw [evalC]; simp only [stepC, h]⟩

theorem cr_scope {ks : List Nat} {c cur : AC} {out : Out} (h : CRuns AP RP cur st out st1) (ho : ∀ l, out ≠ .goto l) : CRuns AP RP (.scope ks c cur) st out st1 := by
  obtain ⟨N, h⟩ := h
  refine ⟨N + 1, ?_⟩
  rw [evalC]
  cases out with
  | goto l => exact absurd rfl (ho l)
  | _ => simp only [stepC, h]

theorem cr_scope_goto {ks : List Nat} {c cur r : AC} {out : Out} {l : Nat} (h : CRuns AP RP cur st (.goto l) st1) (hl : findL c l = some r) (k : CRuns AP RP (.scope ks c r) (killV st1 ks) out st2) : CRuns AP RP (.scope ks c cur) st out st2 := by
  obtain ⟨N, h⟩ := h
  obtain ⟨K, k⟩ := k
  refine ⟨max N K + 1, ?_⟩
  rw [evalC]
  simp only [stepC, evalC_le (Nat.le_max_left N K) _ _ _ h, hl, evalC_le (Nat.le_max_right N K) _ _ _ k]

/-- What is known of the calls that are met. -/
def Known (AP : FuncId → Option AFn) (RP : FuncId → Option (List AV → Option AV)) (CS : CallSem) : Prop := ∀ f vs s r s', CS f vs s = some (r, s') → FRuns AP RP f vs s r s'

/-- Operations without a call. -/
theorem cr_ops0 {dr : Bool} {l : List AOp} (h : runOps (fun _ _ _ => none) RP st l = some st1) : CRuns AP RP (.ops dr l) st .norm (if dr then drop st1 else st1) := by
  refine ⟨1, ?_⟩
  rw [evalC]
  simp only [stepC, runOps_mono (B := runF AP (evalC AP RP 0)) (fun f vs s r hr => by simp at hr) h]

/-- With one call that is known. -/
theorem cr_ops {dr : Bool} {l : List AOp} {CS : CallSem} (hk : ∃ N, CSle CS (evalF AP RP N)) (h : runOps CS RP st l = some st1) : CRuns AP RP (.ops dr l) st .norm (if dr then drop st1 else st1) := by
  obtain ⟨N, hk⟩ := hk
  refine ⟨N + 1, ?_⟩
  rw [evalC]
  simp only [stepC, runOps_mono (B := runF AP (evalC AP RP N)) hk h]

/-- A function of the table. -/
theorem fr_code {f : FuncId} {fn : AFunc} {vs : List AV} {s s' : List Obj} {out : Out} {r : AV} (hf : AP f = some (.code fn)) (hl : (vs.length ≤ fn.n && vs.all plain) = true) (h : CRuns AP RP fn.body (enter fn vs s) out st1) (ho : out = .norm ∨ out = .ret)
    (hv : leave fn st1 = some (r, s')) : FRuns AP RP f vs s r s' := by
  obtain ⟨N, h⟩ := h
  refine ⟨N, ?_⟩
  show runF AP (evalC AP RP N) f vs s = _
  simp only [runF, hf]
  rw [if_pos hl, h]
  rcases ho with rfl | rfl <;> exact hv

theorem fr_prim {f : FuncId} {p : List AV → List Obj → Option (AV × List Obj)} {vs : List AV} {s s' : List Obj} {r : AV} (hf : AP f = some (.prim p)) (h : p vs s = some (r, s')) : FRuns AP RP f vs s r s' :=
  ⟨0, by show runF AP (evalC AP RP 0) f vs s = _; simp only [runF, hf, h]⟩

theorem evalF_le {N K : Nat} (h : N ≤ K) : CSle (evalF AP RP N) (evalF AP RP K) := runF_mono (evalC_le h)

/-- What FRuns tells is what the model does. -/
theorem FRuns.calls {P : Program} (hT : ∀ f fn, AP f = some (.code fn) → FnT P f fn) (hP : ∀ f p, AP f = some (.prim p) → FnOk P (fun _ vs store => p vs store) f) {f : FuncId} {vs : List AV} {s s' : List Obj} {r : AV} (h : FRuns AP RP f vs s r s')
    {M : Mem} {args : List Value} (wf : M.Wf) (ho : OnlyG M) (hA : ArgsRep M vs args) (hs : StoreRep M s) :
    Calls P f args.toArray M.w fun e w' => ∃ v M', e = .returned v ∧ w' = M'.w ∧ Evo M M' ∧ M'.Wf ∧ ResRep M' r v ∧ StoreRep M' s' := by
  obtain ⟨N, h⟩ := h
  exact (evalF_sound (RP := RP) hT hP N f M vs args s r s' wf ho hA hs h).2

end
end Go.VS
