/- Calls: what a function's contract says, and that a call keeps to it. -/
import Derived.Test.YtpebcbnkalkikaaVsSto
set_option linter.unusedVariables false
namespace Go.VS

/-- What a callee sees: what the objects own, what it is given. -/
def Key.pass : Key → Bool
  | .g _ _ | .gb _ | .mp _ | .r _ => true
  | _ => false

theorem Key.pass_of {k : Key} (h : k.isG = true) : k.pass = true := by cases k <;> simp_all [Key.isG, Key.pass]

/-- The callee sees nothing of its caller's. -/
def Mem.hide (M : Mem) : Mem := { M with own := fun b => match M.own b with | some k => if k.pass then some k else none | none => none }

/-- After the call: the caller's again. -/
def Mem.merge (M M' : Mem) : Mem := { M' with own := fun b => match M.own b with | some k => if k.pass then M'.own b else some k | none => M'.own b }

/-- What a result, an argument may be. -/
def Good (x : AV) : Prop := plain x = true ∨ ∃ m s xs, x = .sl (.own m) s xs

/-- Arguments: each stays, or is given. -/
def ArgsRep (M : Mem) (vs : List AV) (args : List Value) : Prop :=
  args.length = vs.length ∧ ∀ (j : Nat) (x : AV), vs[j]? = some x → Good x ∧ ∃ v, args[j]? = some v ∧ Has M (.r j) x v

/-- A result. -/
def ResRep (M : Mem) (r : AV) (v : Value) : Prop := TRep M [] [] (fun _ => undef) Key.r r v

/-- Only objects own, and what is given. -/
def OnlyG (M : Mem) : Prop := ∀ b k, M.own b = some k → k.pass = true

/-- What a function keeps to. -/
def FnOk (P : Program) (CS : CallSem) (f : FuncId) : Prop :=
  ∀ (M : Mem) (vs : List AV) (args : List Value) (store : List Obj) (r : AV) (store' : List Obj), M.Wf → OnlyG M → ArgsRep M vs args → StoreRep M store →
    CS f vs store = some (r, store') → (∃ fn, P.funcs[f]? = some fn ∧ fn.body.isNone = false ∧ (fn.name == "runtime.NumGoroutine") = false) ∧
    Calls P f args.toArray M.w fun e w' => ∃ v M', e = .returned v ∧ w' = M'.w ∧ Evo M M' ∧ M'.Wf ∧ ResRep M' r v ∧ StoreRep M' store'

theorem hide_g {M : Mem} {b : Nat} {k : Key} (h : M.own b = some k) (hk : k.pass = true) : M.hide.own b = some k := by simp [Mem.hide, h, hk]
theorem hide_l {M : Mem} {b : Nat} {k : Key} (h : M.own b = some k) (hk : k.pass = false) : M.hide.own b = none := by simp [Mem.hide, h, hk]
theorem hide_n {M : Mem} {b : Nat} (h : M.own b = none) : M.hide.own b = none := by simp [Mem.hide, h]

theorem hide_wf {M : Mem} (h : M.Wf) : M.hide.Wf where
  sdom := h.sdom
  odom b k hk := by
    simp only [Mem.hide] at hk
    split at hk
    · rename_i q hq; exact h.odom b q hq
    · simp at hk
  gown id b hb := by
    rcases h.gown id b hb with e | e
    · exact .inl (hide_g e rfl)
    · exact .inr (hide_g e rfl)

theorem hide_only {M : Mem} : OnlyG M.hide := by
  intro b k hk
  simp only [Mem.hide] at hk
  split at hk
  · split at hk
    · rename_i h; simp only [Option.some.injEq] at hk; subst hk; exact h
    · simp at hk
  · simp at hk

theorem hide_store {M : Mem} {store : List Obj} (h : StoreRep M store) : StoreRep M.hide store :=
  StoreRep.pres (M := M) (M' := M.hide) (Grow.refl M.S M.G M.w) (fun _ _ h => h) (fun b k hb hk => ⟨(hide_g hb (Key.pass_of hk)).trans hb.symm, rfl, fun _ h => h⟩) h

section
variable {M M' : Mem}

theorem merge_l {b : Nat} {k : Key} (h : M.own b = some k) (hk : k.pass = false) : (M.merge M').own b = some k := by simp [Mem.merge, h, hk]
theorem merge_g {b : Nat} {k : Key} (h : M.own b = some k) (hk : k.pass = true) : (M.merge M').own b = M'.own b := by simp [Mem.merge, h, hk]
theorem merge_n {b : Nat} (h : M.own b = none) : (M.merge M').own b = M'.own b := by simp [Mem.merge, h]

theorem merge_evo (wf : M.Wf) (e : Evo M.hide M') : Evo M (M.merge M') where
  grow := e.grow
  size := e.size
  os := e.os
  tape := e.tape
  output := e.output
  same b hb ho := e.same b hb (hide_n ho)
  acq b hb ho := (merge_n ho).trans (e.acq b hb (hide_n ho))
  snew b j hs := by
    rcases e.snew b j hs with h | h | h
    · exact .inl h
    · exact .inr (.inl h)
    · refine .inr (.inr fun ho => h (hide_n ho))

/-- The caller's own blocks are as they were. -/
theorem merge_pres (wf : M.Wf) (e : Evo M.hide M') {b : Nat} {k : Key} (hb : M.own b = some k) (hk : k.pass = false) : Pres M (M.merge M') b where
  own := (merge_l hb hk).trans hb.symm
  heap := e.same b (wf.odom b k hb) (hide_l hb hk)
  sub j hs := by
    rcases e.snew b j hs with h | h | h
    · exact h
    · exact absurd (wf.odom b k hb) (Nat.not_lt.2 h)
    · exact absurd (hide_l hb hk) h

/-- What the callee made keeps its owner. -/
theorem merge_keep (wf : M.Wf) (wf' : M'.Wf) (e : Evo M.hide M') {b : Nat} {k : Key} (hb : M'.own b = some k) : (M.merge M').own b = some k := by
  cases ho : M.own b with
  | none => rw [merge_n ho, hb]
  | some q =>
    cases hq : q.pass with
    | true => rw [merge_g ho hq, hb]
    | false =>
      have := e.acq b (wf.odom b q ho) (hide_l ho hq)
      rw [this] at hb
      simp at hb

theorem merge_pres' (wf : M.Wf) (wf' : M'.Wf) (e : Evo M.hide M') {b : Nat} {k : Key} (hb : M'.own b = some k) : Pres M' (M.merge M') b :=
  ⟨(merge_keep wf wf' e hb).trans hb.symm, rfl, fun _ h => h⟩

theorem merge_wf (wf : M.Wf) (wf' : M'.Wf) (e : Evo M.hide M') : (M.merge M').Wf where
  sdom := wf'.sdom
  odom b k hk := by
    simp only [Mem.merge] at hk
    split at hk
    · split at hk
      · exact wf'.odom b k hk
      · rename_i q hq _
        exact Nat.lt_of_lt_of_le (wf.odom b q hq) e.size
    · exact wf'.odom b k hk
  gown id b hb := by
    rcases wf'.gown id b hb with h | h
    · exact .inl (merge_keep wf wf' e h)
    · exact .inr (merge_keep wf wf' e h)

theorem merge_store (wf : M.Wf) (wf' : M'.Wf) (e : Evo M.hide M') {store : List Obj} (h : StoreRep M' store) : StoreRep (M.merge M') store :=
  StoreRep.pres (M := M') (M' := M.merge M') (Grow.refl M'.S M'.G M'.w) (fun _ _ h => h) (fun b k hb _ => merge_pres' wf wf' e hb) h

theorem ResRep.any {r : AV} {v : Value} (h : ResRep M r v) (hp : ∀ b k, M.own b = some k → Pres M M' b) (g : Grow M.S M.G M.w M'.S M'.G M'.w) (vars : List AV) (store : List Obj) (vv : Nat → Value) : TRep M' vars store vv Key.r r v := by
  unfold ResRep at h
  refine TRep.move g (fun b k hb => hp b _ hb) (fun j hj => ?_) (fun j hj => ?_) h
  · exfalso
    unfold refV at hj
    split at hj
    · simp [TRep, Owner] at h
    · simp [TRep, Owner] at h
    · simp [TRep] at h
    · exact hj
  · exfalso
    unfold refG at hj
    split at hj
    · simp [TRep, GOwner] at h
    · simp [TRep, GOwner] at h
    · exact hj

theorem look_unG (x : Nat) : ∀ l : List (Nat × AV), look x (unG l) = (match look x l with | .sl (.ofg _ _ _ _) _ _ => .undef | .eptr (.ofg _ _ _ _) _ _ _ _ => .undef | v => v)
  | [] => rfl
  | (y, v) :: r => by
    simp only [unG, look]
    split
    · rfl
    · exact look_unG x r

section
variable {P : Program} {CS : CallSem} {RP : FuncId → Option (List AV → Option AV)} {slots : List Nat} {n : Nat} {st : St} {a : Act}

/-- The caller's frame, once the callee is back. -/
theorem merge_fr (h : FR M slots n st a) (wf' : M'.Wf) (e : Evo M.hide M') {store : List Obj} (hs : StoreRep M' store) :
    FR (M.merge M') slots n { st with store := store, tmps := unG st.tmps } a where
  wf := merge_wf h.wf wf' e
  size := h.size
  defers := h.defers
  len := h.len
  nodup := h.nodup
  lt := h.lt
  vars i x av hx hv := (h.vars i x av hx hv).pres (merge_evo h.wf e).grow (fun b k hb hk => merge_pres h.wf e hb (by cases k <;> simp_all [Key.ofVar, Key.pass]))
  tmps x hx := by
    have ht := h.tmps x hx
    simp only [look_unG]
    have mv : ∀ av, look x st.tmps = av → (∀ id, ¬ refG av id) → TRep (M.merge M') st.vars store (vvOf slots n a) (Key.t x) av (a.tmps.getD x undef) := by
      intro av hav hno
      rw [hav] at ht
      exact ht.move (merge_evo h.wf e).grow (fun b k hb => merge_pres h.wf e hb rfl)
        (fun j _ => ⟨rfl, rfl, fun b hb ⟨cs, hc⟩ o => h.boxCell hc (fun b hb => merge_pres h.wf e hb rfl) hb o⟩) (fun id hr => absurd hr (hno id))
    split
    · simp [TRep, Has, RepV]
    · simp [TRep, Has, RepV]
    · rename_i h1 h2
      refine mv _ rfl fun id hr => ?_
      generalize look x st.tmps = av at *
      unfold refG at hr
      split at hr
      · exact h1 _ _ _ _ _ _ rfl
      · exact h2 _ _ _ _ _ _ _ _ rfl
      · exact hr
  store := merge_store h.wf wf' e hs

theorem args_plain {vs : List AV} {args : List Value} (h : RepVs M vs args) (hp : ∀ x ∈ vs, plain x = true) : ArgsRep M vs args := by
  have key : ∀ {vs : List AV} {args : List Value} (k : Nat), RepVs M vs args → (∀ x ∈ vs, plain x = true) → args.length = vs.length ∧ ∀ (j : Nat) (x : AV), vs[j]? = some x → Good x ∧ ∃ v, args[j]? = some v ∧ Has M (.r (k + j)) x v := by
    intro vs
    induction vs with
    | nil => intro args k h _; simp only [RepVs] at h; subst h; exact ⟨rfl, by simp⟩
    | cons y ys ih =>
      intro args k h hp
      obtain ⟨v, r, rfl, h1, h2⟩ := h
      obtain ⟨e1, e2⟩ := ih (k + 1) h2 (fun x hx => hp x (by simp [hx]))
      refine ⟨by simp [e1], fun j x hj => ?_⟩
      cases j with
      | zero =>
        simp only [List.getElem?_cons_zero, Option.some.injEq] at hj
        subst hj
        have hpy := hp y (by simp)
        refine ⟨.inl hpy, v, rfl, ?_⟩
        unfold Has
        split
        · simp [plain] at hpy
        · exact h1
      | succ j =>
        obtain ⟨g, u, h3, h4⟩ := e2 j x (by simpa using hj)
        exact ⟨g, u, by simpa using h3, by rw [show k + (j + 1) = k + 1 + j by omega]; exact h4⟩
  have := key 0 h hp
  simp only [Nat.zero_add] at this
  exact this

theorem args_hide {vs : List AV} {args : List Value} (h : ArgsRep M vs args) : ArgsRep M.hide vs args :=
  ⟨h.1, fun j x hj => let ⟨g, v, h1, h2⟩ := h.2 j x hj
    ⟨g, v, h1, Has.pres (M := M) (M' := M.hide) (Grow.refl M.S M.G M.w) (fun b hb => ⟨(hide_g hb rfl).trans hb.symm, rfl, fun _ h => h⟩) h2⟩⟩

/-- A call, from what is handed on. -/
theorem call_sound {o : Oper} {d : Dst} {f : FuncId} {vs : List AV} {args : List Value} {r : AV} {store' : List Obj} {st' : St} {M0 : Mem} (hf : FnOk P CS f) (hev : Evo M0 M) (h : FR M slots n st a)
    (hR : ArgsRep M vs args) (hc : CS f vs st.store = some (r, store')) (hput : put { st with store := store', tmps := unG st.tmps } d r = some st')
    (hd : chkDstO slots n o.dst d = true) {next : Act → World → Prop} {Q : Exit → Act → World → Prop} (K : ∀ M' a', FR M' slots n st' a' → NoR M' → Evo M0 M' → next a' M'.w)
    (hrun : (∃ fn, P.funcs[f]? = some fn ∧ fn.body.isNone = false ∧ (fn.name == "runtime.NumGoroutine") = false) → (execOp a.eval o).run P M0.w = .ok (.enter f args.toArray) M.w) : o.upon P a next Q ((execOp a.eval o).run P M0.w) := by
  obtain ⟨he, hC⟩ := hf M.hide vs args st.store r store' (hide_wf h.wf) hide_only (args_hide hR) (hide_store h.store) hc
  rw [hrun he, Oper.upon_enter]
  refine Calls.mono hC fun e w' ⟨v, M', e1, e2, e3, e4, e5, e6⟩ => ?_
  subst e1 e2
  have hfr := merge_fr h e4 e3 e6
  have ht := e5.any (M' := M.merge M') (fun b k hb => merge_pres' h.wf e4 e3 hb) (Grow.refl _ _ _) st.vars store' (vvOf slots n a)
  have := value_ok (P := P) (w1 := M'.w) (next := next) (st1 := { st with store := store', tmps := unG st.tmps }) (Q := Q) hfr (hev.trans (merge_evo h.wf e3)) hd ht hput rfl K
  rw [Oper.upon_value] at this
  exact this

theorem callFunc_run {f : FuncId} {fn : Func} (hf : P.funcs[f]? = some fn) (hb : fn.body.isNone = false) (hn : (fn.name == "runtime.NumGoroutine") = false) (args : Array Value) (w : World) :
    (callFunc f args).run P w = .ok (.enter f args) w := by
  unfold callFunc
  rw [Sem.run_bind, run_program]
  simp only [Result.andThen_ok, hf, hn, hb]
  rfl

theorem fits_call {o : Oper} {f : FuncId} {cargs : Array Operand} {ts : Array TypeId} (ho : o.op = .call { callee := .value (.func f), args := cargs, argTypes := ts }) (hf : FnOk P CS f) {d : Dst} {rs : List Ref}
    (hd : chkDstO slots n o.dst d = true) (hx : chkRefs slots cargs.toList rs = true) : OpFits P CS RP slots n o (.call d f rs) := by
  intro M st a st' h hn hr next Q K
  simp only [runOp] at hr
  split at hr
  · rename_i vs st1 hp
    split at hr
    · rename_i r store' hcs
      obtain ⟨M1, k1, r1, p1, s1⟩ := persL_sound h hx hp
      refine call_sound hf k1.evo k1.fr (args_plain r1 p1) hcs hr hd K fun ⟨fn, q1, q2, q3⟩ => ?_
      rw [k1.w]
      simp only [execOp, ho, Sem.run_bind, resolve, Act.eval, Deferred.ofValue, Sem.run_pure, Result.andThen_ok, invoke]
      rw [callFunc_run q1 q2 q3]
      congr 2
      apply Array.ext'
      simp
    · simp at hr
  · simp at hr

/-- A call of a function value. -/
theorem fits_callv {o : Oper} {fx : Operand} {cargs : Array Operand} {ts : Array TypeId} (ho : o.op = .call { callee := .value fx, args := cargs, argTypes := ts }) (hf : ∀ f, FnOk P CS f) {d : Dst} {rf : Ref} {rs : List Ref}
    (hd : chkDstO slots n o.dst d = true) (hxf : chkRef slots fx rf = true) (hx : chkRefs slots cargs.toList rs = true) : OpFits P CS RP slots n o (.callv d rf rs) := by
  intro M st a st' h hn hr next Q K
  simp only [runOp] at hr
  split at hr
  · rename_i k caps vs st1 hrf hp
    split at hr
    · rename_i hpl
      split at hr
      rotate_left
      · simp at hr
      rename_i r store' hcs
      obtain ⟨M1, k1, r1, p1, s1⟩ := persL_sound h hx hp
      obtain ⟨kt, tf⟩ := rd_trep h hxf
      rw [hrf] at tf
      obtain ⟨c, hv, hcaps⟩ : ∃ c : Array Value, a.eval fx = .func (.func k) #[] c ∧ Reps M.S M.G M.w caps c.toList := by
        simp only [TRep, Has, RepV, Rep, List.cons.injEq, and_true] at tf
        exact tf
      have key : ∀ {xs : List AV} {us : List Value}, Reps M1.S M1.G M1.w xs us → RepVs M1 xs us := by
        intro xs
        induction xs with
        | nil => intro us h; simpa [RepVs, Reps] using h
        | cons x xs ih =>
          intro us h
          obtain ⟨v, r, rfl, e1, e2, e3, e4⟩ := h
          exact ⟨v, r, rfl, repV_of e2 e3, ih e4⟩
      have app : ∀ {xs ys : List AV} {us ws : List Value}, RepVs M1 xs us → RepVs M1 ys ws → RepVs M1 (xs ++ ys) (us ++ ws) := by
        intro xs
        induction xs with
        | nil => intro ys us ws h k; simp only [RepVs] at h; subst h; simpa using k
        | cons x xs ih =>
          intro ys us ws h k
          obtain ⟨v, r, rfl, e1, e2⟩ := h
          exact ⟨v, r ++ ws, rfl, e1, ih e2 k⟩
      have hpl := List.all_eq_true.1 hpl
      · refine call_sound (hf k) k1.evo k1.fr (args_plain (app r1 (key (Reps.mono k1.evo.grow _ _ hcaps))) (by
          intro x hx
          rcases List.mem_append.1 hx with hx | hx
          · exact p1 x hx
          · exact hpl x hx)) hcs hr hd K fun ⟨fn, q1, q2, q3⟩ => ?_
        rw [k1.w]
        simp only [execOp, ho, Sem.run_bind, resolve, Deferred.ofValue, hv, Sem.run_pure, Result.andThen_ok, invoke]
        rw [callFunc_run q1 q2 q3]
        congr 2
        apply Array.ext'
        simp
    · simp at hr
  · simp at hr

end
end
end Go.VS
