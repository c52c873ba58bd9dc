/- Calls: what a function's contract says, and that a call keeps to it. -/
import Derived.Test.YtpebcbnkalkikaaFb
import Derived.Orders
import Derived.OrdersHeld
import Derived.Scope
set_option linter.unusedVariables false
namespace Go.VS

/-- What a callee sees: what the objects own, what it is given. -/
def Key.pass : Key → Bool
  | .g _ _ | .gb _ | .mp _ | .r _ => true
  | _ => false

theorem Key.pass_of {k : Key} (h : k.isG = true) : k.pass = true := by cases k <;> simp_all [Key.isG, Key.pass]

/-- The callee sees nothing of its caller's. -/
def Mem.hide (M : Mem) : Mem := { M with own := fun b => match M.own b with | some k => if k.pass then some k else none | none => none }

/-- After the call: the caller's again. -/
def Mem.merge (M M' : Mem) : Mem := { M' with own := fun b => match M.own b with | some k => if k.pass then M'.own b else some k | none => M'.own b }

/-- What a result, an argument may be. -/
def Good (x : AV) : Prop := plain x = true ∨ ∃ m s xs, x = .sl (.own m) s xs

/-- Arguments: each stays, or is given. -/
def ArgsRep (M : Mem) (vs : List AV) (args : List Value) : Prop :=
  args.length = vs.length ∧ ∀ (j : Nat) (x : AV), vs[j]? = some x → Good x ∧ ∃ v, args[j]? = some v ∧ Has M (.r j) x v

/-- A result. -/
def ResRep (M : Mem) (r : AV) (v : Value) : Prop := TRep M [] [] (fun _ => undef) Key.r r v

/-- Only objects own, and what is given. -/
def OnlyG (M : Mem) : Prop := ∀ b k, M.own b = some k → k.pass = true

/-- What a function keeps to. -/
def FnOk (P : Program) (CS : CallSem) (f : FuncId) : Prop :=
  ∀ (M : Mem) (vs : List AV) (args : List Value) (store : List Obj) (r : AV) (store' : List Obj), M.Wf → OnlyG M → ArgsRep M vs args → StoreRep M store →
    CS f vs store = some (r, store') → (∃ fn, P.funcs[f]? = some fn ∧ fn.body.isNone = false ∧ (fn.name == "runtime.NumGoroutine") = false) ∧
    Calls P f args.toArray M.w fun e w' => ∃ v M', e = .returned v ∧ w' = M'.w ∧ Evo M M' ∧ M'.Wf ∧ ResRep M' r v ∧ StoreRep M' store'

theorem hide_g {M : Mem} {b : Nat} {k : Key} (h : M.own b = some k) (hk : k.pass = true) : M.hide.own b = some k := by simp [Mem.hide, h, hk]
theorem hide_l {M : Mem} {b : Nat} {k : Key} (h : M.own b = some k) (hk : k.pass = false) : M.hide.own b = none := by simp [Mem.hide, h, hk]
theorem hide_n {M : Mem} {b : Nat} (h : M.own b = none) : M.hide.own b = none := by simp [Mem.hide, h]

theorem hide_wf {M : Mem} (h : M.Wf) : M.hide.Wf where
  sdom := h.sdom
  odom b k hk := by
    simp only [Mem.hide] at hk
    split at hk
    · rename_i q hq; exact h.odom b q hq
    · simp at hk
  gown id b hb := by
    rcases h.gown id b hb with e | e
    · exact .inl (hide_g e rfl)
    · exact .inr (hide_g e rfl)

theorem hide_only {M : Mem} : OnlyG M.hide := by
  intro b k hk
  simp only [Mem.hide] at hk
  split at hk
  · split at hk
    · rename_i h; simp only [Option.some.injEq] at hk; subst hk; exact h
    · simp at hk
  · simp at hk

theorem hide_store {M : Mem} {store : List Obj} (h : StoreRep M store) : StoreRep M.hide store :=
  StoreRep.pres (M := M) (M' := M.hide) (Grow.refl M.S M.G M.w) (fun _ _ h => h) (fun b k hb hk => ⟨(hide_g hb (Key.pass_of hk)).trans hb.symm, rfl, fun _ h => h⟩) h

section
variable {M M' : Mem}

theorem merge_l {b : Nat} {k : Key} (h : M.own b = some k) (hk : k.pass = false) : (M.merge M').own b = some k := by simp [Mem.merge, h, hk]
theorem merge_g {b : Nat} {k : Key} (h : M.own b = some k) (hk : k.pass = true) : (M.merge M').own b = M'.own b := by simp [Mem.merge, h, hk]
theorem merge_n {b : Nat} (h : M.own b = none) : (M.merge M').own b = M'.own b := by simp [Mem.merge, h]

theorem merge_evo (wf : M.Wf) (e : Evo M.hide M') : Evo M (M.merge M') where
  grow := e.grow
  size := e.size
  os := e.os
  tape := e.tape
  output := e.output
  same b hb ho := e.same b hb (hide_n ho)
  acq b hb ho := (merge_n ho).trans (e.acq b hb (hide_n ho))
  snew b j hs := by
    rcases e.snew b j hs with h | h | h
    · exact .inl h
    · exact .inr (.inl h)
    · refine .inr (.inr fun ho => h (hide_n ho))

/-- The caller's own blocks are as they were. -/
theorem merge_pres (wf : M.Wf) (e : Evo M.hide M') {b : Nat} {k : Key} (hb : M.own b = some k) (hk : k.pass = false) : Pres M (M.merge M') b where
  own := (merge_l hb hk).trans hb.symm
  heap := e.same b (wf.odom b k hb) (hide_l hb hk)
  sub j hs := by
    rcases e.snew b j hs with h | h | h
    · exact h
    · exact absurd (wf.odom b k hb) (Nat.not_lt.2 h)
    · exact absurd (hide_l hb hk) h

/-- What the callee made keeps its owner. -/
theorem merge_keep (wf : M.Wf) (wf' : M'.Wf) (e : Evo M.hide M') {b : Nat} {k : Key} (hb : M'.own b = some k) : (M.merge M').own b = some k := by
  cases ho : M.own b with
  | none => rw [merge_n ho, hb]
  | some q =>
    cases hq : q.pass with
    | true => rw [merge_g ho hq, hb]
    | false =>
      have := e.acq b (wf.odom b q ho) (hide_l ho hq)
      rw [this] at hb
      simp at hb

theorem merge_pres' (wf : M.Wf) (wf' : M'.Wf) (e : Evo M.hide M') {b : Nat} {k : Key} (hb : M'.own b = some k) : Pres M' (M.merge M') b :=
  ⟨(merge_keep wf wf' e hb).trans hb.symm, rfl, fun _ h => h⟩

theorem merge_wf (wf : M.Wf) (wf' : M'.Wf) (e : Evo M.hide M') : (M.merge M').Wf where
  sdom := wf'.sdom
  odom b k hk := by
    simp only [Mem.merge] at hk
    split at hk
    · split at hk
      · exact wf'.odom b k hk
      · rename_i q hq _
        exact Nat.lt_of_lt_of_le (wf.odom b q hq) e.size
    · exact wf'.odom b k hk
  gown id b hb := by
    rcases wf'.gown id b hb with h | h
    · exact .inl (merge_keep wf wf' e h)
    · exact .inr (merge_keep wf wf' e h)

theorem merge_store (wf : M.Wf) (wf' : M'.Wf) (e : Evo M.hide M') {store : List Obj} (h : StoreRep M' store) : StoreRep (M.merge M') store :=
  StoreRep.pres (M := M') (M' := M.merge M') (Grow.refl M'.S M'.G M'.w) (fun _ _ h => h) (fun b k hb _ => merge_pres' wf wf' e hb) h

theorem ResRep.any {r : AV} {v : Value} (h : ResRep M r v) (hp : ∀ b k, M.own b = some k → Pres M M' b) (g : Grow M.S M.G M.w M'.S M'.G M'.w) (vars : List AV) (store : List Obj) (vv : Nat → Value) : TRep M' vars store vv Key.r r v := by
  unfold ResRep at h
  refine TRep.move g (fun b k hb => hp b _ hb) (fun j hj => ?_) (fun j hj => ?_) h
  · exfalso
    unfold refV at hj
    split at hj
    · simp [TRep, Owner] at h
    · simp [TRep, Owner] at h
    · simp [TRep] at h
    · exact hj
  · exfalso
    unfold refG at hj
    split at hj
    · simp [TRep, GOwner] at h
    · simp [TRep, GOwner] at h
    · exact hj

theorem look_unG (x : Nat) : ∀ l : List (Nat × AV), look x (unG l) = (match look x l with | .sl (.ofg _ _ _ _) _ _ => .undef | .eptr (.ofg _ _ _ _) _ _ _ _ => .undef | v => v)
  | [] => rfl
  | (y, v) :: r => by
    simp only [unG, look]
    split
    · rfl
    · exact look_unG x r

section
variable {P : Program} {CS : CallSem} {RP : FuncId → Option (List AV → Option AV)} {slots : List Nat} {n : Nat} {st : St} {a : Act}

/-- The caller's frame, once the callee is back. -/
theorem merge_fr (h : FR M slots n st a) (wf' : M'.Wf) (e : Evo M.hide M') {store : List Obj} (hs : StoreRep M' store) :
    FR (M.merge M') slots n { st with store := store, tmps := unG st.tmps } a where
  wf := merge_wf h.wf wf' e
  size := h.size
  defers := h.defers
  len := h.len
  nodup := h.nodup
  lt := h.lt
  vars i x av hx hv := (h.vars i x av hx hv).pres (merge_evo h.wf e).grow (fun b k hb hk => merge_pres h.wf e hb (by cases k <;> simp_all [Key.ofVar, Key.pass]))
  tmps x hx := by
    have ht := h.tmps x hx
    simp only [look_unG]
    have mv : ∀ av, look x st.tmps = av → (∀ id, ¬ refG av id) → TRep (M.merge M') st.vars store (vvOf slots n a) (Key.t x) av (a.tmps.getD x undef) := by
      intro av hav hno
      rw [hav] at ht
      exact ht.move (merge_evo h.wf e).grow (fun b k hb => merge_pres h.wf e hb rfl)
        (fun j _ => ⟨rfl, rfl, fun b hb ⟨cs, hc⟩ o => h.boxCell hc (fun b hb => merge_pres h.wf e hb rfl) hb o⟩) (fun id hr => absurd hr (hno id))
    split
    · simp [TRep, Has, RepV]
    · simp [TRep, Has, RepV]
    · rename_i h1 h2
      refine mv _ rfl fun id hr => ?_
      generalize look x st.tmps = av at *
      unfold refG at hr
      split at hr
      · exact h1 _ _ _ _ _ _ rfl
      · exact h2 _ _ _ _ _ _ _ _ rfl
      · exact hr
  store := merge_store h.wf wf' e hs

theorem args_plain {vs : List AV} {args : List Value} (h : RepVs M vs args) (hp : ∀ x ∈ vs, plain x = true) : ArgsRep M vs args := by
  have key : ∀ {vs : List AV} {args : List Value} (k : Nat), RepVs M vs args → (∀ x ∈ vs, plain x = true) → args.length = vs.length ∧ ∀ (j : Nat) (x : AV), vs[j]? = some x → Good x ∧ ∃ v, args[j]? = some v ∧ Has M (.r (k + j)) x v := by
    intro vs
    induction vs with
    | nil => intro args k h _; simp only [RepVs] at h; subst h; exact ⟨rfl, by simp⟩
    | cons y ys ih =>
      intro args k h hp
      obtain ⟨v, r, rfl, h1, h2⟩ := h
      obtain ⟨e1, e2⟩ := ih (k + 1) h2 (fun x hx => hp x (by simp [hx]))
      refine ⟨by simp [e1], fun j x hj => ?_⟩
      cases j with
      | zero =>
        simp only [List.getElem?_cons_zero, Option.some.injEq] at hj
        subst hj
        have hpy := hp y (by simp)
        refine ⟨.inl hpy, v, rfl, ?_⟩
        unfold Has
        split
        · simp [plain] at hpy
        · exact h1
      | succ j =>
        obtain ⟨g, u, h3, h4⟩ := e2 j x (by simpa using hj)
        exact ⟨g, u, by simpa using h3, by rw [show k + (j + 1) = k + 1 + j by omega]; exact h4⟩
  have := key 0 h hp
  simp only [Nat.zero_add] at this
  exact this

theorem args_hide {vs : List AV} {args : List Value} (h : ArgsRep M vs args) : ArgsRep M.hide vs args :=
  ⟨h.1, fun j x hj => let ⟨g, v, h1, h2⟩ := h.2 j x hj
    ⟨g, v, h1, Has.pres (M := M) (M' := M.hide) (Grow.refl M.S M.G M.w) (fun b hb => ⟨(hide_g hb rfl).trans hb.symm, rfl, fun _ h => h⟩) h2⟩⟩

/-- A call, from what is handed on. -/
theorem call_sound {o : Oper} {d : Dst} {f : FuncId} {vs : List AV} {args : List Value} {r : AV} {store' : List Obj} {st' : St} {M0 : Mem} (hf : FnOk P CS f) (hev : Evo M0 M) (h : FR M slots n st a)
    (hR : ArgsRep M vs args) (hc : CS f vs st.store = some (r, store')) (hput : put { st with store := store', tmps := unG st.tmps } d r = some st')
    (hd : chkDstO slots n o.dst d = true) {next : Act → World → Prop} {Q : Exit → Act → World → Prop} (K : ∀ M' a', FR M' slots n st' a' → NoR M' → Evo M0 M' → next a' M'.w)
    (hrun : (∃ fn, P.funcs[f]? = some fn ∧ fn.body.isNone = false ∧ (fn.name == "runtime.NumGoroutine") = false) → (execOp a.eval o).run P M0.w = .ok (.enter f args.toArray) M.w) : o.upon P a next Q ((execOp a.eval o).run P M0.w) := by
  obtain ⟨he, hC⟩ := hf M.hide vs args st.store r store' (hide_wf h.wf) hide_only (args_hide hR) (hide_store h.store) hc
  rw [hrun he, Oper.upon_enter]
  refine Calls.mono hC fun e w' ⟨v, M', e1, e2, e3, e4, e5, e6⟩ => ?_
  subst e1 e2
  have hfr := merge_fr h e4 e3 e6
  have ht := e5.any (M' := M.merge M') (fun b k hb => merge_pres' h.wf e4 e3 hb) (Grow.refl _ _ _) st.vars store' (vvOf slots n a)
  have := value_ok (P := P) (w1 := M'.w) (next := next) (st1 := { st with store := store', tmps := unG st.tmps }) (Q := Q) hfr (hev.trans (merge_evo h.wf e3)) hd ht hput rfl K
  rw [Oper.upon_value] at this
  exact this

theorem callFunc_run {f : FuncId} {fn : Func} (hf : P.funcs[f]? = some fn) (hb : fn.body.isNone = false) (hn : (fn.name == "runtime.NumGoroutine") = false) (args : Array Value) (w : World) :
    (callFunc f args).run P w = .ok (.enter f args) w := by
  unfold callFunc
  rw [Sem.run_bind, run_program]
  simp only [Result.andThen_ok, hf, hn, hb]
  rfl

theorem fits_call {o : Oper} {f : FuncId} {cargs : Array Operand} {ts : Array TypeId} (ho : o.op = .call { callee := .value (.func f), args := cargs, argTypes := ts }) (hf : FnOk P CS f) {d : Dst} {rs : List Ref}
    (hd : chkDstO slots n o.dst d = true) (hx : chkRefs slots cargs.toList rs = true) : OpFits P CS RP slots n o (.call d f rs) := by
  intro M st a st' h hn hr next Q K
  simp only [runOp] at hr
  split at hr
  · rename_i vs st1 hp
    split at hr
    · rename_i r store' hcs
      obtain ⟨M1, k1, r1, p1, s1⟩ := persL_sound h hx hp
      refine call_sound hf k1.evo k1.fr (args_plain r1 p1) hcs hr hd K fun ⟨fn, q1, q2, q3⟩ => ?_
      rw [k1.w]
      simp only [execOp, ho, Sem.run_bind, resolve, Act.eval, Deferred.ofValue, Sem.run_pure, Result.andThen_ok, invoke]
      rw [callFunc_run q1 q2 q3]
      congr 2
      apply Array.ext'
      simp
    · simp at hr
  · simp at hr

/-- A call of a function value. -/
theorem fits_callv {o : Oper} {fx : Operand} {cargs : Array Operand} {ts : Array TypeId} (ho : o.op = .call { callee := .value fx, args := cargs, argTypes := ts }) (hf : ∀ f, FnOk P CS f) {d : Dst} {rf : Ref} {rs : List Ref}
    (hd : chkDstO slots n o.dst d = true) (hxf : chkRef slots fx rf = true) (hx : chkRefs slots cargs.toList rs = true) : OpFits P CS RP slots n o (.callv d rf rs) := by
  intro M st a st' h hn hr next Q K
  simp only [runOp] at hr
  split at hr
  · rename_i k caps vs st1 hrf hp
    split at hr
    · rename_i hpl
      split at hr
      rotate_left
      · simp at hr
      rename_i r store' hcs
      obtain ⟨M1, k1, r1, p1, s1⟩ := persL_sound h hx hp
      obtain ⟨kt, tf⟩ := rd_trep h hxf
      rw [hrf] at tf
      obtain ⟨c, hv, hcaps⟩ : ∃ c : Array Value, a.eval fx = .func (.func k) #[] c ∧ Reps M.S M.G M.w caps c.toList := by
        simp only [TRep, Has, RepV, Rep, List.cons.injEq, and_true] at tf
        exact tf
      have key : ∀ {xs : List AV} {us : List Value}, Reps M1.S M1.G M1.w xs us → RepVs M1 xs us := by
        intro xs
        induction xs with
        | nil => intro us h; simpa [RepVs, Reps] using h
        | cons x xs ih =>
          intro us h
          obtain ⟨v, r, rfl, e1, e2, e3, e4⟩ := h
          exact ⟨v, r, rfl, repV_of e2 e3, ih e4⟩
      have app : ∀ {xs ys : List AV} {us ws : List Value}, RepVs M1 xs us → RepVs M1 ys ws → RepVs M1 (xs ++ ys) (us ++ ws) := by
        intro xs
        induction xs with
        | nil => intro ys us ws h k; simp only [RepVs] at h; subst h; simpa using k
        | cons x xs ih =>
          intro ys us ws h k
          obtain ⟨v, r, rfl, e1, e2⟩ := h
          exact ⟨v, r ++ ws, rfl, e1, ih e2 k⟩
      have hpl := List.all_eq_true.1 hpl
      · refine call_sound (hf k) k1.evo k1.fr (args_plain (app r1 (key (Reps.mono k1.evo.grow _ _ hcaps))) (by
          intro x hx
          rcases List.mem_append.1 hx with hx | hx
          · exact p1 x hx
          · exact hpl x hx)) hcs hr hd K fun ⟨fn, q1, q2, q3⟩ => ?_
        rw [k1.w]
        simp only [execOp, ho, Sem.run_bind, resolve, Deferred.ofValue, hv, Sem.run_pure, Result.andThen_ok, invoke]
        rw [callFunc_run q1 q2 q3]
        congr 2
        apply Array.ext'
        simp
    · simp at hr
  · simp at hr

end
end
end Go.VS
/- Operations that leave the world as it is. -/
set_option linter.unusedVariables false
namespace Go.VS

/-- Where it comes through, it leaves the world as it is. -/
def Keep (P : Program) {α : Type} (s : Sem α) : Prop := ∀ w a w1, s.run P w = .ok a w1 → w1 = w

/-- It never comes through. -/
def Dead (P : Program) {α : Type} (s : Sem α) : Prop := ∀ w a w1, s.run P w ≠ .ok a w1

section
variable {P : Program}

theorem Dead.keep {α : Type} {s : Sem α} (h : Dead P s) : Keep P s := fun w a w1 hr => absurd hr (h w a w1)

theorem andThen_ok_inv {α β : Type} {r : Result α} {f : α → World → Result β} {b : β} {w : World} (h : r.andThen f = .ok b w) : ∃ a w1, r = .ok a w1 ∧ f a w1 = .ok b w := by
  cases r with
  | ok a w1 => exact ⟨a, w1, rfl, h⟩
  | halt x w1 => cases h

theorem keep_bind {α β : Type} {s : Sem α} {f : α → Sem β} (h : Keep P s) (hf : ∀ a, Keep P (f a)) : Keep P (s >>= f) := by
  intro w b w2 hr
  rw [Sem.run_bind] at hr
  obtain ⟨a, w1, h1, h2⟩ := andThen_ok_inv hr
  exact (hf a _ b w2 h2).trans (h w a w1 h1)

theorem dead_bind {α β : Type} {s : Sem α} {f : α → Sem β} (hf : ∀ a, Dead P (f a)) : Dead P (s >>= f) := by
  intro w b w2 hr
  rw [Sem.run_bind] at hr
  obtain ⟨a, w1, h1, h2⟩ := andThen_ok_inv hr
  exact hf a _ _ _ h2

theorem keep_pure {α : Type} (a : α) : Keep P (pure a : Sem α) := by
  intro w b w1 hr
  rw [Sem.run_pure] at hr
  simp only [Result.ok.injEq] at hr
  exact hr.2.symm

theorem dead_halt {α : Type} (h : Halt) : Dead P (.halt h : Sem α) := fun w a w1 hr => by simp [Sem.run] at hr
theorem dead_goPanic {α : Type} (v : Value) : Dead P (goPanic v : Sem α) := dead_halt _
theorem keep_stuck {α : Type} (s : String) : Keep P (stuck s : Sem α) := (dead_halt _).keep
theorem keep_unsupported {α : Type} (s : Unsupported) : Keep P (unsupported s : Sem α) := (dead_halt _).keep

theorem keep_program : Keep P program := by
  intro w b w1 hr
  rw [run_program] at hr
  simp only [Result.ok.injEq] at hr
  exact hr.2.symm

theorem dead_runtimePanic {α : Type} (e : RuntimeError) : Dead P (runtimePanic e : Sem α) := by
  unfold runtimePanic
  refine dead_bind fun p => ?_
  dsimp only
  cases e <;> first | exact dead_goPanic _ | exact dead_bind fun _ => dead_bind fun _ => dead_goPanic _

theorem dead_boundsPanic {α : Type} (k : IntKind) (x y : Int) (c : BoundsCode) : Dead P (boundsPanic k x y c : Sem α) := by
  unfold boundsPanic
  dsimp only
  split <;> exact dead_bind fun _ => dead_runtimePanic _

theorem keep_boundsPanic {α : Type} (k : IntKind) (x y : Int) (c : BoundsCode) : Keep P (boundsPanic k x y c : Sem α) := (dead_boundsPanic k x y c).keep

theorem keep_ite {α : Type} {c : Prop} [Decidable c] {s t : Sem α} (h : Keep P s) (k : Keep P t) : Keep P (if c then s else t) := by
  split <;> assumption

theorem keep_typeInfo (t : TypeId) : Keep P (typeInfo t) := by
  unfold typeInfo
  refine keep_bind keep_program fun p => ?_
  split
  · exact keep_pure _
  · exact keep_stuck _

theorem keep_underlying (t : TypeId) : Keep P (underlying t) := by
  unfold underlying
  refine keep_bind keep_program fun p => ?_
  split
  · exact keep_pure _
  · exact keep_stuck _

theorem keep_sizeOf (t : TypeId) : Keep P (sizeOf t) := keep_bind (keep_typeInfo t) fun _ => keep_pure _

theorem keep_isAgg (t : TypeId) : Keep P (isAgg t) := by
  unfold isAgg
  refine keep_bind (keep_underlying t) fun d => ?_
  split <;> exact keep_pure _

theorem keep_asBool (v : Value) : Keep P (asBool v) := by
  unfold asBool
  split
  · exact keep_pure _
  · exact keep_stuck _

theorem keep_asIntOf (v : Value) : Keep P (asIntOf v) := by
  unfold asIntOf
  split
  · exact keep_pure _
  · exact keep_unsupported _
  · exact keep_stuck _

theorem keep_asAgg (v : Value) : Keep P (asAgg v) := by
  unfold asAgg
  split
  · exact keep_pure _
  · exact keep_stuck _

theorem keep_sureAddr (v : Value) : Keep P (Instr.sureAddr v) := by
  unfold Instr.sureAddr
  split
  · exact keep_pure _
  · exact keep_stuck _

theorem keep_load (a : Addr) : Keep P (load a) := by
  intro w v w1 hr
  unfold load at hr
  simp only [Sem.run] at hr
  split at hr
  · simp only [Result.ok.injEq] at hr
    exact hr.2.symm
  · split at hr
    · simp only [Result.ok.injEq] at hr
      exact hr.2.symm
    · simp at hr

theorem keep_loadCellsFrom (a : Addr) : ∀ (n i : Nat) (acc : Array Value), Keep P (loadCellsFrom a i n acc)
  | 0, i, acc => keep_pure _
  | n + 1, i, acc => by
    unfold loadCellsFrom
    exact keep_bind (keep_load _) fun v => keep_loadCellsFrom a n _ _

theorem keep_loadVar (t : TypeId) (a : Addr) : Keep P (loadVar t a) := by
  unfold loadVar
  refine keep_bind (keep_isAgg t) fun b => ?_
  split
  · exact keep_bind (keep_sizeOf t) fun n => keep_bind (keep_loadCellsFrom a n 0 #[]) fun _ => keep_pure _
  · exact keep_load a

theorem keep_loadAt (t : TypeId) (v : Value) : Keep P (Instr.loadAt t v) := keep_bind (keep_sureAddr v) fun a => keep_loadVar t a

theorem keep_indexAt (t : TypeId) (x i : Value) : Keep P (Instr.indexAt t x i) := by
  unfold Instr.indexAt
  refine keep_bind (keep_asIntOf _) fun (k, i) => ?_
  refine keep_bind (keep_underlying t) fun d => ?_
  have jp : ∀ (u : String) (q : Option Addr × Nat × TypeId), Keep P (match q with
      | (base, len, elem) => do
        let __do_lift ← underlying t
        have tiny : Bool := decide (len ≤ 1) && match __do_lift with | TypeDesc.array len elem => true | x => false
        match base with
          | some a =>
            if 0 ≤ i ∧ i < ↑len then do
              let __do_lift ← sizeOf elem
              pure (Value.pointer (some (a.add (i.toNat * __do_lift))))
            else
              if tiny = true then
                unsupported (Unsupported.noEntry u)
              else boundsPanic k i (↑len) BoundsCode.index
          | none => boundsPanic k i 0 BoundsCode.index) := by
    rintro u ⟨base, len, elem⟩
    refine keep_bind (keep_underlying t) fun d => ?_
    dsimp only
    cases base with
    | some a =>
      refine keep_ite (keep_bind (keep_sizeOf _) fun _ => keep_pure _) (keep_ite (keep_unsupported _) (keep_boundsPanic _ _ _ _))
    | none => exact keep_boundsPanic _ _ _ _
  dsimp only at jp ⊢
  split
  · exact keep_bind (keep_sureAddr _) fun _ => keep_bind (keep_pure _) (jp _)
  · exact keep_bind (keep_pure _) (jp _)
  · exact keep_bind (keep_stuck _) (jp _)

theorem keep_extract (t : Value) (k : Nat) : Keep P (Instr.extract t k) := by
  unfold Instr.extract
  split
  · split
    · exact keep_pure _
    · exact keep_stuck _
  · exact keep_stuck _

theorem keep_index (t : TypeId) (x i : Value) (hx : ∃ s, x = .string s) : Keep P (Instr.index t x i) := by
  obtain ⟨s, rfl⟩ := hx
  unfold Instr.index
  refine keep_bind (keep_asIntOf _) fun (k, i) => ?_
  refine keep_bind (keep_underlying t) fun d => ?_
  split
  · rename_i h; cases h
  · split
    · exact keep_pure _
    · exact keep_boundsPanic _ _ _ _
  · exact keep_stuck _

end

def OpStill (P : Program) (CS : CallSem) (RP : FuncId → Option (List AV → Option AV)) (slots : List Nat) (n : Nat) (o : Oper) (op : AOp) : Prop :=
  ∀ M st a st', FR M slots n st a → NoR M → runOp CS RP st op = some st' → ∃ v, (execOp a.eval o).run P M.w = .ok (.value v) M.w

section
variable {P : Program} {CS : CallSem} {RP : FuncId → Option (List AV → Option AV)} {slots : List Nat} {n : Nat} {o : Oper} {op : AOp}

theorem OpFits.ok (h : OpFits P CS RP slots n o op) {M : Mem} {st st' : St} {a : Act} (hf : FR M slots n st a) (hn : NoR M) (hr : runOp CS RP st op = some st') :
    o.upon P a (fun _ _ => True) (fun _ _ _ => False) ((execOp a.eval o).run P M.w) := h M st a st' hf hn hr _ _ fun _ _ _ _ _ => trivial

theorem still_of {s : (Operand → Value) → Sem Value} (h : OpFits P CS RP slots n o op) (he : ∀ ρ, execOp ρ o = do pure (.value (← s ρ))) (hk : ∀ (M : Mem) (st st' : St) (a : Act), FR M slots n st a → runOp CS RP st op = some st' → Keep P (s a.eval)) :
    OpStill P CS RP slots n o op := by
  intro M st a st' hf hn hr
  have hu := h.ok hf hn hr
  have hk := hk M st st' a hf hr
  rw [he] at hu ⊢
  rw [Sem.run_bind] at hu ⊢
  cases hs : (s a.eval).run P M.w with
  | ok v w1 =>
    have := hk _ _ _ hs
    subst this
    exact ⟨v, rfl⟩
  | halt x w1 =>
    rw [hs] at hu
    exfalso
    cases x <;> exact hu

theorem still_mv {x : Operand} (ho : o.op = .move x ∨ o.op = .assign x) : OpStill P CS RP slots n o op := by
  intro M st a st' hf hn hr
  refine ⟨a.eval x, ?_⟩
  rcases ho with ho | ho <;> simp [execOp, ho]

theorem still_ld {T : TypeId} {x : Operand} (ho : o.op = .load T x) (h : OpFits P CS RP slots n o op) : OpStill P CS RP slots n o op :=
  still_of (s := fun ρ => Instr.loadAt T (ρ x)) h (fun ρ => by simp only [execOp, ho]) fun _ _ _ _ _ _ => keep_loadAt _ _

theorem still_iad {T : TypeId} {x i : Operand} (ho : o.op = .indexAddr T x i) (h : OpFits P CS RP slots n o op) : OpStill P CS RP slots n o op :=
  still_of (s := fun ρ => Instr.indexAt T (ρ x) (ρ i)) h (fun ρ => by simp only [execOp, ho]) fun _ _ _ _ _ _ => keep_indexAt _ _ _

theorem still_ext {k : Nat} {x : Operand} (ho : o.op = .extract x k) (h : OpFits P CS RP slots n o op) : OpStill P CS RP slots n o op :=
  still_of (s := fun ρ => Instr.extract (ρ x) k) h (fun ρ => by simp only [execOp, ho]) fun _ _ _ _ _ _ => keep_extract _ _

theorem still_pick {c x y : Operand} (ho : o.op = .pick c x y) (h : OpFits P CS RP slots n o op) : OpStill P CS RP slots n o op :=
  still_of (s := fun ρ => do pure (if ← asBool (ρ c) then ρ x else ρ y)) h (fun ρ => by simp only [execOp, ho, bind_assoc, pure_bind]) fun _ _ _ _ _ _ => keep_bind (keep_asBool _) fun _ => keep_pure _

theorem still_bin {bo : BinOp} {T T' : TypeId} {x y : Operand} (ho : o.op = .binOp bo T x y T') {d : Dst} {rx ry : Ref}
    (hx : chkRef slots x rx = true) (hy : chkRef slots y ry = true) : OpStill P CS RP slots n o (.bin d bo rx ry) := by
  intro M st a st' h hn hr
  simp only [runOp] at hr
  split at hr
  · rename_i r hb
    obtain ⟨kx, tx⟩ := rd_trep h hx
    obtain ⟨ky, ty⟩ := rd_trep h hy
    obtain ⟨v, h1, h2, h3⟩ := binop_run (P := P) hb T M.w (vx := a.eval x) (vy := a.eval y) (fun k i e => by rw [e] at tx; exact tx.int) (fun l e => by rw [e] at tx; exact tx.str)
      (fun k i e => by rw [e] at ty; exact ty.int) (fun l e => by rw [e] at ty; exact ty.str) x y
    refine ⟨v, ?_⟩
    simp only [execOp, ho]
    show (((do eqGuard bo T x y (a.eval x) (a.eval y); binOp bo T (a.eval x) (a.eval y) : Sem Value)) >>= fun s => pure (Next.value s)).run P M.w = _
    rw [Sem.run_bind, h1]
    rfl
  · simp at hr

theorem still_un {uo : UnOp} {T : TypeId} {x : Operand} (ho : o.op = .unOp uo T x) {d : Dst} {rx : Ref} (hx : chkRef slots x rx = true) : OpStill P CS RP slots n o (.un d uo rx) := by
  intro M st a st' h hn hr
  simp only [runOp] at hr
  split at hr
  · rename_i r hb
    obtain ⟨kx, tx⟩ := rd_trep h hx
    obtain ⟨v, h1, h2, h3⟩ := unop_run (P := P) hb M.w (vx := a.eval x) (fun k i e => by rw [e] at tx; exact tx.int) (fun b e => by rw [e] at tx; exact tx.bool)
    exact ⟨v, by simp [execOp, ho, h1]⟩
  · simp at hr

theorem still_len {x : Operand} {T : TypeId} {ts : Array TypeId} (ho : o.op = .call { callee := .builtin .len, args := #[x], argTypes := ts }) (hT : ts[0]? = some T) {str : Bool}
    (hu : match str with | true => P.underlying T = some .string | false => ∃ e, P.underlying T = some (.slice e)) {d : Dst} {rx : Ref}
    (hx : chkRef slots x rx = true) : OpStill P CS RP slots n o (.len d str rx) := by
  intro M st a st' h hn hr
  simp only [runOp] at hr
  obtain ⟨kx, tx⟩ := rd_trep h hx
  split at hr
  · rename_i l hl
    rw [hl] at tx
    refine ⟨.int .i64 l.length, ?_⟩
    simp only [execOp, ho, Sem.run_bind, run_resolve_builtin, Result.andThen_ok, invoke, builtin]
    rw [show (#[x].map a.eval) = #[.string ⟨l.toArray⟩] by simp [tx.str], len_str hT hu]
    rfl
  · rename_i ow s xs hl
    rw [hl] at tx
    obtain ⟨a', cap, hv, _⟩ := (sl_content h tx).val
    obtain ⟨e, hu⟩ := hu
    refine ⟨.int .i64 xs.length, ?_⟩
    simp only [execOp, ho, Sem.run_bind, run_resolve_builtin, Result.andThen_ok, invoke, builtin]
    rw [show (#[x].map a.eval) = #[.slice a' xs.length cap] by simp [hv], len_sl hT hu]
    rfl
  · simp at hr

theorem still_cvi {x : Operand} {T T' : TypeId} {k : IntKind} (ho : o.op = .convert T T' x) (hu : ∃ e, P.underlying T = some e) (hu' : P.underlying T' = some (.int k)) {d : Dst} {rx : Ref}
    (hx : chkRef slots x rx = true) : OpStill P CS RP slots n o (.cvi d k rx) := by
  intro M st a st' h hn hr
  simp only [runOp] at hr
  obtain ⟨kx, tx⟩ := rd_trep h hx
  split at hr
  · rename_i j i hl
    rw [hl] at tx
    obtain ⟨e, hu⟩ := hu
    exact ⟨.int k (k.wrap i), by simp [execOp, ho, convert, run_underlying hu, run_underlying hu', tx.int, Conv.intToInt]⟩
  · simp at hr

theorem still_nck {x : Operand} (ho : o.op = .nilCheck x) {d : Dst} {rx : Ref} (hx : chkRef slots x rx = true) : OpStill P CS RP slots n o (.nck d rx) := by
  intro M st a st' h hn hr
  simp only [runOp] at hr
  obtain ⟨kx, tx⟩ := rd_trep h hx
  split at hr
  · rename_i j off hl
    rw [hl] at tx
    simp only [TRep] at tx
    obtain ⟨b, cs, h1, h2, h3⟩ := tx
    exact ⟨a.eval x, by simp [execOp, ho, h3]⟩
  · rename_i id off hl
    rw [hl] at tx
    simp only [TRep, Has, RepV, Rep, List.cons.injEq, and_true] at tx
    obtain ⟨b, h1, h3⟩ := tx
    exact ⟨a.eval x, by simp [execOp, ho, h3]⟩
  · simp at hr

end
end Go.VS
/- Regions: operations one after the other, guards, orders left open. -/
set_option linter.unusedVariables false
namespace Go.VS

section
variable (P : Program) (CS : CallSem) (RP : FuncId → Option (List AV → Option AV)) (slots : List Nat) (n : Nat) (ops : Array Oper)

def OpFitsG (o : Oper) (op : AOp) : Prop :=
  ∀ M st a st', FR M slots n st a → NoR M → runOp CS RP st op = some st' → ∀ (next : Act → World → Prop) (Q : Exit → Act → World → Prop),
    (∀ M' a', FR M' slots n st' a' → NoR M' → Evo M M' → next a' M'.w) →
    if Region.wanted o (yielded ops a.tmps) then o.wp P a M.w next Q else next (a.put o.dst undef) M.w

def OpStillG (o : Oper) (op : AOp) : Prop :=
  ∀ M st a st', FR M slots n st a → NoR M → runOp CS RP st op = some st' → ∃ v, YieldsIf P ops (fun w => w = M.w) o v a

def chkSkip : Option Tmp → List Dst → Bool
  | none, [] => true
  | some x, [d] => chkDst slots n x d
  | _, _ => false
end

section
variable {P : Program} {CS : CallSem} {RP : FuncId → Option (List AV → Option AV)} {slots : List Nat} {n : Nat} {ops : Array Oper} {o : Oper} {op : AOp}

theorem fitsG_none (hg : o.guard = none) (h : OpFits P CS RP slots n o op) : OpFitsG P CS RP slots n ops o op := by
  intro M st a st' hf hn hr next Q K
  rw [if_pos (by simp [Region.wanted, hg])]
  exact h M st a st' hf hn hr next Q K

theorem stillG_none (hg : o.guard = none) (h : OpStill P CS RP slots n o op) : OpStillG P CS RP slots n ops o op := by
  intro M st a st' hf hn hr
  obtain ⟨v, hv⟩ := h M st a st' hf hn hr
  exact ⟨v, .inl ⟨by simp [Region.wanted, hg], fun w hw => hw ▸ hv⟩⟩

theorem wanted_of {M : Mem} {st : St} {a : Act} {g tg : Nat} {og : Oper} {want b : Bool} (hf : FR M slots n st a) (hg : o.guard = some (g, want)) (hog : ops[g]? = some og) (hd : og.dst = some tg) (hs : tg ∉ slots)
    (hb : look tg st.tmps = .bool b) : Region.wanted o (yielded ops a.tmps) = (b == want) := by
  have ht := hf.tmps tg hs
  rw [hb] at ht
  have hv : a.tmps.getD tg undef = .bool b := ht.bool
  have : a.tmps[tg]? = some (.bool b) := by
    rw [Array.getD_eq_getD_getElem?] at hv
    cases h : a.tmps[tg]? with
    | none => rw [h] at hv; simp [undef] at hv
    | some v => rw [h] at hv; simpa using hv
  simp [Region.wanted, hg, yielded, hog, hd, this]

theorem unwanted_of {M : Mem} {st : St} {a : Act} {g tg : Nat} {og : Oper} {want : Bool} (hf : FR M slots n st a) (hg : o.guard = some (g, want)) (hog : ops[g]? = some og) (hd : og.dst = some tg) (hs : tg ∉ slots)
    (hb : look tg st.tmps = .tup []) : Region.wanted o (yielded ops a.tmps) = false := by
  have ht := hf.tmps tg hs
  rw [hb] at ht
  obtain ⟨u, hv, _⟩ := (ht : TupRep M (fun k => .t tg (k + 1)) [] (a.tmps.getD tg undef))
  have : ∀ b, a.tmps[tg]? ≠ some (.bool b) := by
    intro b e
    rw [Array.getD_eq_getD_getElem?, e] at hv
    simp at hv
  simp only [Region.wanted, hg, yielded, hog, hd, Option.bind_some]
  rfl

theorem skip_fr {M : Mem} {st st' : St} {a : Act} (hf : FR M slots n st a) (hn : NoR M) {ds : List Dst} (hc : chkSkip slots n o.dst ds = true)
    (hr : skipD st ds = some st') : ∃ M', M'.w = M.w ∧ Evo M M' ∧ NoR M' ∧ FR M' slots n st' (a.put o.dst undef) := by
  unfold skipD at hr
  cases hd : o.dst with
  | none =>
    rw [hd] at hc
    cases ds with
    | nil =>
      simp only [List.foldl_nil, Option.some.injEq] at hr
      subst hr
      exact ⟨M, rfl, .refl M, hn, hf⟩
    | cons d ds => simp [chkSkip] at hc
  | some x =>
    rw [hd] at hc
    cases ds with
    | nil => simp [chkSkip] at hc
    | cons d ds =>
      cases ds with
      | cons d' ds => simp [chkSkip] at hc
      | nil =>
        simp only [List.foldl_cons, List.foldl_nil, Option.bind_some] at hr
        refine put_sound hf hc (av := skipV d) (v := undef) ?_ hr
        cases d with
        | t y => exact ⟨#[], rfl, rfl, by simp⟩
        | v i m => simp [skipV, TRep, Has, RepV]
        | n => simp [skipV, TRep, Has, RepV]

theorem fitsG_some {g tg : Nat} {og : Oper} {want : Bool} {ds : List Dst} (hg : o.guard = some (g, want)) (hog : ops[g]? = some og) (hd : og.dst = some tg) (hs : tg ∉ slots)
    (hc : chkSkip slots n o.dst ds = true) (h : OpFits P CS RP slots n o op) : OpFitsG P CS RP slots n ops o (.g (.t tg) want ds op) := by
  intro M st a st' hf hn hr next Q K
  simp only [runOp, rd] at hr
  split at hr
  · rename_i b hb
    rw [wanted_of hf hg hog hd hs hb]
    split at hr
    · rename_i hbw
      subst hbw
      rw [if_pos (by simp)]
      exact h M st a st' hf hn hr next Q K
    · rename_i hbw
      rw [if_neg (by simpa using hbw)]
      obtain ⟨M', e1, e2, e3, e4⟩ := skip_fr hf hn hc hr
      rw [← e1]
      exact K M' _ e4 e3 e2
  · rename_i hb
    rw [if_neg (by rw [unwanted_of hf hg hog hd hs hb]; simp)]
    obtain ⟨M', e1, e2, e3, e4⟩ := skip_fr hf hn hc hr
    rw [← e1]
    exact K M' _ e4 e3 e2
  · simp at hr

theorem stillG_some {g tg : Nat} {og : Oper} {want : Bool} {ds : List Dst} (hg : o.guard = some (g, want)) (hog : ops[g]? = some og) (hd : og.dst = some tg) (hs : tg ∉ slots)
    (h : OpStill P CS RP slots n o op) : OpStillG P CS RP slots n ops o (.g (.t tg) want ds op) := by
  intro M st a st' hf hn hr
  simp only [runOp, rd] at hr
  split at hr
  · rename_i b hb
    have hw := wanted_of hf hg hog hd hs hb
    split at hr
    · rename_i hbw
      subst hbw
      obtain ⟨v, hv⟩ := h M st a st' hf hn hr
      exact ⟨v, .inl ⟨by rw [hw]; simp, fun w e => e ▸ hv⟩⟩
    · rename_i hbw
      exact ⟨undef, .inr ⟨by rw [hw]; simpa using hbw, rfl⟩⟩
  · rename_i hb
    exact ⟨undef, .inr ⟨unwanted_of hf hg hog hd hs hb, rfl⟩⟩
  · simp at hr

/-- The operations as they stand. -/
def OpsFit (P : Program) (CS : CallSem) (RP : FuncId → Option (List AV → Option AV)) (slots : List Nat) (n : Nat) (ops : Array Oper) (al : List AOp) : Prop :=
  al.length = ops.size ∧ ∀ (i : Nat) (o : Oper) (op : AOp), ops[i]? = some o → al[i]? = some op → OpFitsG P CS RP slots n ops o op

theorem runOps_cons {st st' : St} {op : AOp} {l : List AOp} (h : runOps CS RP st (op :: l) = some st') : ∃ st1, runOp CS RP st op = some st1 ∧ runOps CS RP st1 l = some st' := by
  simp only [runOps] at h
  split at h
  · exact ⟨_, by assumption, h⟩
  · simp at h

theorem ops_sound {al : List AOp} (H : OpsFit P CS RP slots n ops al) {Q : Exit → Act → World → Prop} : ∀ (d k : Nat) (M : Mem) (st : St) (a : Act) (st' : St), k + d = al.length → FR M slots n st a → NoR M → runOps CS RP st (al.drop k) = some st' →
    (∀ M' a', FR M' slots n st' a' → NoR M' → Evo M M' → Q .normal a' M'.w) → wpOps P ops Q (List.range' k d) a M.w
  | 0, k, M, st, a, st', hk, hf, hn, hr, K => by
    have : al.drop k = [] := List.drop_eq_nil_of_le (by omega)
    rw [this] at hr
    simp only [runOps, Option.some.injEq] at hr
    subst hr
    exact K M a hf hn (.refl M)
  | d + 1, k, M, st, a, st', hk, hf, hn, hr, K => by
    have hlt : k < al.length := by omega
    rw [List.drop_eq_getElem_cons hlt] at hr
    obtain ⟨st1, h1, h2⟩ := runOps_cons hr
    have hko : k < ops.size := by rw [← H.1]; exact hlt
    have ho : ops[k]? = some ops[k] := Array.getElem?_eq_getElem hko
    have hfit := H.2 k _ _ ho (List.getElem?_eq_getElem hlt) M st a st1 hf hn h1 (wpOps P ops Q (List.range' (k + 1) d)) Q
      fun M' a' f' n' e' => ops_sound H d (k + 1) M' st1 a' st' (by omega) f' n' h2 fun M'' a'' f'' n'' e'' => K M'' a'' f'' n'' (e'.trans e'')
    rw [List.range'_succ, wpOps_cons, wpOp, ho]
    dsimp only
    split
    · rename_i hw
      rw [if_pos hw] at hfit
      exact .inl hfit
    · rename_i hw
      rw [if_neg hw] at hfit
      exact hfit

/-! ### orders left open -/
def allL (m : Nat) (listed : Array Bool) : Bool := (List.range m).all fun i => listed.getD i false

def Closed (ops : Array Oper) (listed : Array Bool) : Prop :=
  ∀ j o, ops[j]? = some o → listed.getD j false = true → ∀ e ∈ o.after, Region.binds .any e = true → listed.getD e.on false = true

/-- The first m come before all others. -/
def Cut (ops : Array Oper) (m : Nat) : Prop := ∀ listed, Closed ops listed → allL m listed = false → ∀ j ∈ Region.ready .any ops listed, j < m

def wpAnyG (P : Program) (ops : Array Oper) (Q : Exit → Act → World → Prop) (m : Nat) : Nat → Array Bool → Act → World → Prop
  | 0, listed, a, w => if allL m listed then wpAny P .any ops Q 0 listed a w else Region.ready .any ops listed = [] ∧ Q .normal a w
  | fuel + 1, listed, a, w => if allL m listed then wpAny P .any ops Q (fuel + 1) listed a w else
    (Region.ready .any ops listed = [] → Q .normal a w) ∧
    ∀ i ∈ Region.ready .any ops listed, wpOp P ops Q i (fun a' w' => w' = w ∧ wpAnyG P ops Q m fuel (listed.setIfInBounds i true) a' w') a w

variable {Q : Exit → Act → World → Prop} {m : Nat}

theorem wpAny_of_G : ∀ (fuel : Nat) (listed : Array Bool) (a : Act) (w : World), wpAnyG P ops Q m fuel listed a w → wpAny P .any ops Q fuel listed a w
  | 0, listed, a, w, h => by
    unfold wpAnyG at h
    split at h
    · exact h
    · exact h
  | fuel + 1, listed, a, w, h => by
    unfold wpAnyG at h
    split at h
    · exact h
    · exact ⟨h.1, fun i hi => wpOp_mono (fun a' w' h' => wpAny_of_G fuel _ a' w' h'.2) (h.2 i hi)⟩

theorem allL_false {m i : Nat} {listed : Array Bool} (hi : i < m) (h : listed.getD i true = false) : allL m listed = false := by
  rw [allL, List.all_eq_false]
  refine ⟨i, List.mem_range.2 hi, ?_⟩
  rcases Nat.lt_or_ge i listed.size with h' | h'
  · simp [h'] at h ⊢; exact h
  · simp [Array.getElem?_eq_none h'] at h

theorem Closed.set {listed : Array Bool} (h : Closed ops listed) {j : Nat} (hj : j ∈ Region.ready .any ops listed) : Closed ops (listed.setIfInBounds j true) := by
  intro k o hk hl e he hb
  by_cases hkj : j = k
  · subst hkj
    obtain ⟨_, o', ho', hall⟩ := mem_ready.1 hj
    rw [hk] at ho'
    simp only [Option.some.injEq] at ho'
    subst ho'
    exact getD_set_true (hall e he hb)
  · rw [getD_set_ne false hkj] at hl
    exact getD_set_true (h k o hk hl e he hb)

theorem wpAnyG_first {i : Nat} {oi : Oper} {v : Value} (hi : ops[i]? = some oi) (hsel : ∀ (j : Nat) (o : Oper) cs b, ops[j]? = some o → o.op ≠ .select cs b)
    (hQ : ∀ c a w, ¬ Q (.panic c) a w) (hcut : Cut ops m) (him : i < m) :
    ∀ (fuel : Nat) (listed : Array Bool) (a : Act) (w : World), Closed ops listed →
      (∀ j oj, ops[j]? = some oj → j ≠ i → listed.getD j true = false → (∀ e ∈ oj.after, Region.binds .any e = true → e.on ≠ i) → oi.apart ops oj = true) →
      i ∈ Region.ready .any ops listed → YieldsIf P ops (fun x => x = w) oi v a →
      wpAnyG P ops Q m fuel (listed.setIfInBounds i true) (a.put oi.dst v) w → wpAnyG P ops Q m (fuel + 1) listed a w := by
  intro fuel
  induction fuel with
  | zero =>
    intro listed a w hcl _ hr hy H
    have hiu := (mem_ready.1 hr).1
    unfold wpAnyG
    rw [if_neg (by rw [allL_false him hiu]; simp)]
    refine ⟨fun h => (by rw [h] at hr; cases hr), fun j hj => ?_⟩
    by_cases hji : j = i
    · subst hji; exact hy.wpOp hi rfl ⟨rfl, H⟩
    · have hj' := ready_mono hj hji
      have hjm := hcut _ hcl (allL_false him hiu) j hj
      unfold wpAnyG at H
      rw [if_neg (by rw [allL_false hjm (mem_ready.1 hj').1]; simp)] at H
      rw [H.1] at hj'
      cases hj'
  | succ fuel ih =>
    intro listed a w hcl hfree hr hy H
    have hiu := (mem_ready.1 hr).1
    rw [wpAnyG, if_neg (by rw [allL_false him hiu]; simp)]
    refine ⟨fun h => (by rw [h] at hr; cases hr), fun j hj => ?_⟩
    by_cases hji : j = i
    · subst hji; exact hy.wpOp hi rfl ⟨rfl, H⟩
    · have hj' := ready_mono hj hji
      have hjm := hcut _ hcl (allL_false him hiu) j hj
      rw [wpAnyG, if_neg (by rw [allL_false hjm (mem_ready.1 hj').1]; simp)] at H
      have h1 := H.2 j hj'
      obtain ⟨hjun, oj, hoj, hall⟩ := mem_ready.1 hj
      have hnot : ∀ e ∈ oj.after, Region.binds .any e = true → e.on ≠ i := fun e he hb heq => by
        have h1 := hall e he hb
        rw [heq] at h1
        rcases Nat.lt_or_ge i listed.size with h' | h'
        · simp [h'] at hiu h1; rw [hiu] at h1; cases h1
        · simp [Array.getElem?_eq_none h'] at h1
      have h2 := wpOp_putIf hoj (hfree j oj hoj hji hjun hnot) (fun cs b => hsel i oi cs b hi) (fun cs b => hsel j oj cs b hoj) (fun c a w h => absurd h (hQ c _ w)) hy h1
      have hfree' : ∀ k ok, ops[k]? = some ok → k ≠ i → (listed.setIfInBounds j true).getD k true = false →
          (∀ e ∈ ok.after, Region.binds .any e = true → e.on ≠ i) → oi.apart ops ok = true := fun k ok hk hki hun hno => by
        refine hfree k ok hk hki ?_ hno
        by_cases hjk : j = k
        · subst hjk; exact hjun
        · rw [getD_set_ne true hjk] at hun; exact hun
      refine wpOp_mono (fun a' w' h3 => ⟨h3.2.1, ?_⟩) h2
      obtain ⟨h4, h5, h6⟩ := h3
      subst h5
      refine ih (listed.setIfInBounds j true) a' _ (hcl.set hj) hfree' (ready_mono hr (Ne.symm hji)) h4 ?_
      rw [Array.setIfInBounds_comm _ _ hji]
      exact h6

/-- The first k have come up. -/
def upto (N k : Nat) : Array Bool := ((List.range N).map fun i => decide (i < k)).toArray

theorem upto_getD {N k j : Nat} (d : Bool) (h : j < N) : (upto N k).getD j d = decide (j < k) := by simp [upto, h]

theorem upto_out {N k j : Nat} (d : Bool) (h : N ≤ j) : (upto N k).getD j d = d := by
  have : (upto N k).size ≤ j := by simp [upto, h]
  simp [Array.getElem?_eq_none this]

theorem upto_zero (N : Nat) : Array.replicate N false = upto N 0 := by
  apply Array.ext
  · simp [upto]
  · intro i h1 h2
    simp [upto]

theorem upto_succ {N k : Nat} (h : k < N) : (upto N k).setIfInBounds k true = upto N (k + 1) := by
  apply Array.ext
  · simp [upto]
  · intro i h1 h2
    simp only [upto, List.size_toArray, List.length_map, List.length_range] at h2
    rw [Array.getElem_setIfInBounds (by simpa [upto] using h2)]
    · by_cases e : k = i
      · subst e; simp [upto]
      · rw [if_neg e]
        simp only [upto, List.getElem_toArray, List.getElem_map, List.getElem_range, decide_eq_decide]
        omega

/-- Groups of operations: one alone, or several that leave the world as it is. -/
inductive GroupsOk (P : Program) (CS : CallSem) (RP : FuncId → Option (List AV → Option AV)) (slots : List Nat) (n : Nat) (ops : Array Oper) (al : List AOp) : Nat → Prop
  | done : GroupsOk P CS RP slots n ops al ops.size
  | one (k : Nat) : k < ops.size → Region.ready .any ops (upto ops.size k) = [k] → GroupsOk P CS RP slots n ops al (k + 1) → GroupsOk P CS RP slots n ops al k
  | many (k m : Nat) : k ≤ m → m ≤ ops.size → Cut ops m → (∀ (i : Nat) (o : Oper) (op : AOp), k ≤ i → i < m → ops[i]? = some o → al[i]? = some op → OpStillG P CS RP slots n ops o op) →
      (∀ i, k ≤ i → i < m → i ∈ Region.ready .any ops (upto ops.size i) ∧ Region.free .any ops (upto ops.size i) i = true) → GroupsOk P CS RP slots n ops al m → GroupsOk P CS RP slots n ops al k

theorem closed_upto {k : Nat} (hk : ∀ i, i < k → i ∈ Region.ready .any ops (upto ops.size i)) : k ≤ ops.size → Closed ops (upto ops.size k) := by
  intro hkn
  induction k with
  | zero =>
    intro j o hj hl
    have hjn : j < ops.size := (Array.getElem?_eq_some_iff.1 hj).1
    rw [upto_getD _ hjn] at hl
    simp at hl
  | succ k ih =>
    have := (ih (fun i hi => hk i (by omega)) (by omega)).set (hk k (by omega))
    rwa [upto_succ (by omega)] at this

theorem allL_upto {N m : Nat} (h : m ≤ N) : allL m (upto N m) = true := by
  rw [allL, List.all_eq_true]
  intro i hi
  have := List.mem_range.1 hi
  rw [upto_getD _ (by omega)]
  simpa using this

theorem draw_sound {al : List AOp} (H : OpsFit P CS RP slots n ops al) (hs : Region.noSelect ops = true) (hQ : ∀ c a w, ¬ Q (.panic c) a w) {k : Nat} (hG : GroupsOk P CS RP slots n ops al k) :
    (∀ i, i < k → i ∈ Region.ready .any ops (upto ops.size i)) → ∀ (M : Mem) (st : St) (a : Act) (st' : St), FR M slots n st a → NoR M → runOps CS RP st (al.drop k) = some st' →
    (∀ M' a', FR M' slots n st' a' → NoR M' → Evo M M' → Q .normal a' M'.w) → wpAny P .any ops Q (ops.size - k) (upto ops.size k) a M.w := by
  have step : ∀ {k : Nat}, k < ops.size → ∃ (hl : k < al.length), ops[k]? = some ops[k]! ∧ al.drop k = al[k] :: al.drop (k + 1) := by
    intro k hk
    have hl : k < al.length := by rw [H.1]; exact hk
    exact ⟨hl, by simp [hk], List.drop_eq_getElem_cons hl⟩
  induction hG with
  | done =>
    intro _ M st a st' hf hn hr K
    have : al.drop ops.size = [] := List.drop_eq_nil_of_le (Nat.le_of_eq H.1)
    rw [this] at hr
    simp only [runOps, Option.some.injEq] at hr
    subst hr
    refine wpAny_done ?_ (K M a hf hn (.refl M)) _
    rw [List.eq_nil_iff_forall_not_mem]
    intro j hj
    obtain ⟨h0, o, ho, _⟩ := mem_ready.1 hj
    have hjn : j < ops.size := (Array.getElem?_eq_some_iff.1 ho).1
    rw [upto_getD _ hjn] at h0
    simp [hjn] at h0
  | one k hk hrd hG ih =>
    intro hpre M st a st' hf hn hr K
    obtain ⟨hl, ho, hd⟩ := step hk
    rw [hd] at hr
    obtain ⟨st1, h1, h2⟩ := runOps_cons hr
    have hsz : ops.size - k = (ops.size - (k + 1)) + 1 := by omega
    rw [hsz]
    refine wpAny_all hrd (by simp) fun i hi => ?_
    simp only [List.mem_singleton] at hi
    subst hi
    rw [upto_succ hk]
    have hfit := H.2 i _ _ ho (List.getElem?_eq_getElem hl) M st a st1 hf hn h1 (wpAny P .any ops Q (ops.size - (i + 1)) (upto ops.size (i + 1))) Q
      fun M' a' f' n' e' => ih (fun j hj => by
        by_cases e : j = i
        · subst e; rw [hrd]; simp
        · exact hpre j (by omega)) M' st1 a' st' f' n' h2 fun M'' a'' f'' n'' e'' => K M'' a'' f'' n'' (e'.trans e'')
    rw [wpOp, ho]
    dsimp only
    split
    · rename_i hw
      rw [if_pos hw] at hfit
      exact .inl hfit
    · rename_i hw
      rw [if_neg hw] at hfit
      exact hfit
  | many k m hkm hmn hcut hst hfr hG ih =>
    intro hpre M st a st' hf hn hr K
    have hpre' : ∀ i, i < m → i ∈ Region.ready .any ops (upto ops.size i) := by
      intro i hi
      by_cases e : i < k
      · exact hpre i e
      · exact (hfr i (by omega) hi).1
    refine wpAny_of_G (m := m) _ _ _ _ ?_
    have key : ∀ (d i : Nat), i + d = m → k ≤ i → ∀ (M : Mem) (st : St) (a : Act), FR M slots n st a → NoR M → runOps CS RP st (al.drop i) = some st' →
        (∀ M' a', FR M' slots n st' a' → NoR M' → Evo M M' → Q .normal a' M'.w) → wpAnyG P ops Q m (ops.size - i) (upto ops.size i) a M.w := by
      intro d
      induction d with
      | zero =>
        intro i hi hki M st a hf hn hr K
        have : i = m := by omega
        subst this
        have := ih hpre' M st a st' hf hn hr K
        cases hz : ops.size - i with
        | zero => rw [hz] at this; unfold wpAnyG; rw [if_pos (allL_upto hmn)]; exact this
        | succ z => rw [hz] at this; unfold wpAnyG; rw [if_pos (allL_upto hmn)]; exact this
      | succ d ihd =>
        intro i hi hki M st a hf hn hr K
        have hin : i < ops.size := by omega
        obtain ⟨hl, ho, hd⟩ := step hin
        rw [hd] at hr
        obtain ⟨st1, h1, h2⟩ := runOps_cons hr
        obtain ⟨v, hy⟩ := hst i _ _ hki (by omega) ho (List.getElem?_eq_getElem hl) M st a st1 hf hn h1
        have hsz : ops.size - i = (ops.size - (i + 1)) + 1 := by omega
        rw [hsz]
        refine wpAnyG_first ho (Region.noSelect_spec hs) hQ hcut (by omega) _ _ a M.w (closed_upto (fun j hj => hpre' j (by omega)) (by omega)) (Region.free_spec ho (hfr i hki (by omega)).2) (hfr i hki (by omega)).1 hy ?_
        rw [upto_succ hin]
        have hfit := H.2 i _ _ ho (List.getElem?_eq_getElem hl) M st a st1 hf hn h1 (wpAnyG P ops Q m (ops.size - (i + 1)) (upto ops.size (i + 1))) Q
          fun M' a' f' n' e' => ihd (i + 1) (by omega) (by omega) M' st1 a' f' n' h2 fun M'' a'' f'' n'' e'' => K M'' a'' f'' n'' (e'.trans e'')
        rcases hy with ⟨hw, hv⟩ | ⟨hw, rfl⟩
        · rw [if_pos hw] at hfit
          unfold Oper.wp at hfit
          rw [hv _ rfl, Oper.upon_value] at hfit
          exact hfit
        · rw [if_neg (by rw [hw]; simp)] at hfit
          exact hfit
    exact key (m - k) k (by omega) (Nat.le_refl _) M st a hf hn hr K

end
end Go.VS
/- Code: what the interpreter tells of it is what the model does. -/
set_option linter.unusedVariables false
namespace Go.VS

section
variable {P : Program} {CS : CallSem} {RP : FuncId → Option (List AV → Option AV)} {slots : List Nat} {n : Nat} {M : Mem} {st : St} {a : Act}

/-! ### ghost steps -/
theorem FR.drop (h : FR M slots n st a) : FR M slots n (drop st) a where
  wf := h.wf
  size := h.size
  defers := h.defers
  len := h.len
  nodup := h.nodup
  lt := h.lt
  vars := h.vars
  tmps x _ := by simp [VS.drop, look, TRep, Has, RepV]
  store := h.store

theorem FR.undefV (h : FR M slots n st a) (i : Nat) : FR M slots n (setV st i .undef) a := by
  rcases Nat.lt_or_ge i slots.length with hl | hl
  · exact h.setVar (Grow.refl _ _ _) h.wf (fun _ _ h => h) (List.getElem?_eq_getElem hl) (fun b k _ _ _ => ⟨rfl, rfl, fun _ h => h⟩) (v := a.tmps.getD slots[i] undef) (by simp [VRep, Has, RepV]) h.size h.defers rfl (fun _ _ => rfl)
  · have hs : setV st i .undef = { st with tmps := unref i st.tmps } := by
      have : st.vars.set i .undef = st.vars := List.set_eq_of_length_le (by rw [h.len]; exact hl)
      simp [setV, this]
    rw [hs]
    refine ⟨h.wf, h.size, h.defers, h.len, h.nodup, h.lt, h.vars, fun x hx => ?_, h.store⟩
    show TRep M st.vars st.store (vvOf slots n a) (Key.t x) (look x (unref i st.tmps)) _
    rw [look_unref]
    have ht := h.tmps x hx
    by_cases hr : refV (look x st.tmps) i
    · exact unr_rep (fun off m s ys v0 ho => ⟨_, h.owner_arr ho⟩) hr ht _ _ _ _
    · rw [unr_same hr]; exact ht

theorem FR.killV : ∀ {st : St}, FR M slots n st a → ∀ (is : List Nat), FR M slots n (VS.killV st is) a
  | _, h, [] => h
  | _, h, i :: is => FR.killV (h.undefV i) is

theorem FR.frz (h : FR M slots n st a) (hn : NoR M) {i : Nat} {m : Bool} {s : Nat} {xs : List AV} (hi : st.vars[i]? = some (.sl (.own m) s xs)) :
    ∃ M', M'.w = M.w ∧ Evo M M' ∧ NoR M' ∧ FR M' slots n (setV st i (.sl (.own false) s xs)) a := by
  have hl : i < slots.length := by
    have := (List.getElem?_eq_some_iff.1 hi).1; rw [h.len] at this; exact this
  have hv := h.vars i slots[i] _ (List.getElem?_eq_getElem hl) hi
  cases m with
  | false =>
    exact ⟨M, rfl, .refl M, hn, h.setVar (Grow.refl _ _ _) h.wf (fun _ _ h => h) (List.getElem?_eq_getElem hl) (fun b k _ _ _ => ⟨rfl, rfl, fun _ h => h⟩) hv h.size h.defers rfl (fun _ _ => rfl)⟩
  | true =>
    obtain ⟨M', e1, e2, e3, e4, e5, e6, e7⟩ := OwnArr.settle h.wf (show OwnArr M (.v i 0) true s xs (a.tmps.getD slots[i] undef) from hv)
    refine ⟨M', e1, e4, fun b k => by rw [e2]; exact hn b k, h.setVar e4.grow e5 (fun id b hb => by rw [← e3]; exact hb) (List.getElem?_eq_getElem hl) (fun b k hb hk _ => ⟨by rw [e2], by rw [e1], fun j hj => e7 b (by
      rw [hb]; intro e; exact hk (by rw [Option.some.inj e]; rfl)) j hj⟩) (v := a.tmps.getD slots[i] undef) e6 h.size h.defers rfl (fun _ _ => rfl)⟩

/-- The world's other parts. -/
theorem FR.world (h : FR M slots n st a) {w' : World} (hw : w'.heap = M.w.heap) (ho : w'.os = M.w.os) (ht : w'.tape = M.w.tape) (hu : w'.output = M.w.output) : FR { M with w := w' } slots n st a ∧ Evo M { M with w := w' } := by
  have hc : ∀ b j, cellAt w' b j = cellAt M.w b j := fun b j => by simp [cellAt, World.cell?, hw]
  have g : Grow M.S M.G M.w M.S M.G w' := ⟨fun _ _ h => h, fun _ _ h => h, fun b j _ => hc b j⟩
  refine ⟨h.evolve (M' := { M with w := w' }) g ⟨fun b j hs => by rw [hc]; exact h.wf.sdom b j hs, fun b k hk => by show b < w'.heap.size; rw [hw]; exact h.wf.odom b k hk, h.wf.gown⟩ (fun _ _ h => h) (fun b k _ _ => ⟨rfl, by show w'.heap[b]? = _; rw [hw], fun _ h => h⟩), ?_⟩
  exact ⟨g, by show _ ≤ w'.heap.size; rw [hw]; exact Nat.le_refl _, ho, ht, hu, fun b _ _ => by show w'.heap[b]? = _; rw [hw], fun _ _ h => h, fun _ _ h => .inl h⟩

/-! ### what fits what -/
variable (P) in
/-- A function keeps to its contract in whatever the calls are told by. -/
def RegT (slots : List Nat) (n : Nat) (ops : Array Oper) (draw : Bool) (al : List AOp) : Prop :=
  ∀ (CS : CallSem) (RP : FuncId → Option (List AV → Option AV)), (∀ f, FnOk P CS f) → OpsFit P CS RP slots n ops al ∧ (draw = true → P.follows .mixedOrders = true ∧ Region.noSelect ops = true ∧ GroupsOk P CS RP slots n ops al 0)

variable (P) (slots) (n) in
inductive CodeT : AC → Code → Prop
  | skip : CodeT .skip .skip
  | frz {i c code} : CodeT c code → CodeT (.frz i c) code
  | ops {dr al id ops draw} : RegT P slots n ops draw al → CodeT (.ops dr al) (.region id ops draw)
  | ite {r x a b ca cb} : chkRef slots x r = true → CodeT a ca → CodeT b cb → CodeT (.ite r a b) (.cond x ca cb)
  | seq {a b ca cb} : CodeT a ca → CodeT b cb → CodeT (.seq a b) (.seq ca cb)
  | block {id c code} : CodeT c code → CodeT (.block id c) (.block id code)
  | loop {ks c code} : CodeT c code → CodeT (.loop ks c) (.loop code)
  | scope {ks c code} : CodeT c code → CodeT (.sc ks c) (.scope code)
  | label {l} : CodeT (.label l) (.label l)
  | goto {l} : CodeT (.goto l) (.goto l)
  | exit {id} : CodeT (.exit id) (.exit id)
  | ret : CodeT .ret .ret

theorem findL_none {c : AC} {code : Code} (h : CodeT P slots n c code) : ∀ {l : Nat}, findL c l = none → findLabel code l = none := by
  induction h with
  | frz h ih => intro l hf; exact ih (by simpa [findL] using hf)
  | @seq a b ca cb h1 h2 ih1 ih2 =>
    intro l hf
    simp only [findL] at hf
    split at hf
    · simp at hf
    · rename_i ha
      simp only [findLabel, ih1 ha, ih2 hf]
  | @label l' =>
    intro l hf
    simp only [findL] at hf
    split at hf
    · simp at hf
    · rename_i hl
      simp [findLabel, hl]
  | _ => intro l hf; simp [findLabel]

theorem findL_some {c : AC} {code : Code} (h : CodeT P slots n c code) : ∀ {l : Nat} {r : AC}, findL c l = some r → ∃ rest, findLabel code l = some rest ∧ CodeT P slots n r rest := by
  induction h with
  | frz h ih => intro l r hf; exact ih (by simpa [findL] using hf)
  | @seq a b ca cb h1 h2 ih1 ih2 =>
    intro l r hf
    simp only [findL] at hf
    split at hf
    · rename_i r' ha
      simp only [Option.some.injEq] at hf
      subst hf
      obtain ⟨rest, e1, e2⟩ := ih1 ha
      exact ⟨.seq rest cb, by simp [findLabel, e1], .seq e2 h2⟩
    · rename_i ha
      obtain ⟨rest, e1, e2⟩ := ih2 hf
      refine ⟨rest, ?_, e2⟩
      simp only [findLabel, findL_none h1 ha, e1]
  | label =>
    intro l r hf
    simp only [findL] at hf
    split at hf
    · simp only [Option.some.injEq] at hf
      rename_i hl
      subst hf hl
      exact ⟨.skip, by simp [findLabel], .skip⟩
    · simp at hf
  | _ => intro l r hf; simp [findL] at hf

/-! ### loops and scopes, from where they stand -/
def LoopIn (P : Program) (c : Code) (Q : Exit → Act → World → Prop) (a : Act) (w : World) : Prop :=
  ∀ (b : Frame) (k : List Item) (cs : List Frame), ∃ e a' w', Q e a' w' ∧ Arrives P (lone (b.at a (.code c :: .inLoop c :: k)) cs w) b k cs e a' w'

theorem wp_of_loopIn {c : Code} {Q : Exit → Act → World → Prop} {w : World} (h : LoopIn P c Q a w) : (Code.loop c).wp P Q a w :=
  fun b k cs => let ⟨e, a', w', q, r⟩ := h b k cs; ⟨e, a', w', q, .of_steps (.one step_loop) r⟩

theorem loopIn_of {c : Code} {Q : Exit → Act → World → Prop} {w : World} (h : c.wp P (Exit.then (LoopIn P c Q) Q) a w) : LoopIn P c Q a w := by
  intro b k cs
  obtain ⟨e, a₁, w₁, hq, harr⟩ := h b (.inLoop c :: k) cs
  cases e with
  | normal =>
    obtain ⟨e₂, a₂, w₂, hq₂, harr₂⟩ := hq b k cs
    exact ⟨e₂, a₂, w₂, hq₂, .of_steps (Steps.trans harr (.one step_inLoop)) harr₂⟩
  | exit id => exact ⟨_, a₁, w₁, hq, .pass (x := .inLoop c) rfl (fun _ _ => .inl (by simp)) harr⟩
  | goto l => exact ⟨_, a₁, w₁, hq, .pass (x := .inLoop c) rfl (fun _ _ => .inl (by simp)) harr⟩
  | ret => exact ⟨_, a₁, w₁, hq, .pass (x := .inLoop c) rfl (fun _ _ => .inl (by simp)) harr⟩
  | panic ch => exact ⟨_, a₁, w₁, hq, .pass (x := .inLoop c) rfl (fun _ _ => .inl (by simp)) harr⟩
  | outgrown => exact ⟨_, a₁, w₁, hq, .pass (x := .inLoop c) rfl (fun _ _ => .inl (by simp)) harr⟩

def ScopeIn (P : Program) (c cur : Code) (Q : Exit → Act → World → Prop) (a : Act) (w : World) : Prop :=
  ∀ (b : Frame) (k : List Item) (cs : List Frame), ∃ e a' w', Q e a' w' ∧ Arrives P (lone (b.at a (.code cur :: .inScope c :: k)) cs w) b k cs e a' w'

theorem wp_of_scopeIn {c : Code} {Q : Exit → Act → World → Prop} {w : World} (h : ScopeIn P c c Q a w) : (Code.scope c).wp P Q a w :=
  fun b k cs => let ⟨e, a', w', q, r⟩ := h b k cs; ⟨e, a', w', q, .of_steps (.one step_scope) r⟩

/-- Gotos that the scope takes. -/
def Exit.inScope (P : Program) (c : Code) (Q : Exit → Act → World → Prop) : Exit → Act → World → Prop
  | .goto l, a, w => match findLabel c l with
    | some rest => ScopeIn P c rest Q a w
    | none => Q (.goto l) a w
  | e, a, w => Q e a w

theorem scopeIn_of {c cur : Code} {Q : Exit → Act → World → Prop} {w : World} (h : cur.wp P (Exit.inScope P c Q) a w) : ScopeIn P c cur Q a w := by
  intro b k cs
  obtain ⟨e, a₁, w₁, hq, harr⟩ := h b (.inScope c :: k) cs
  cases e with
  | normal => exact ⟨.normal, a₁, w₁, hq, Steps.trans harr (.one step_inScope)⟩
  | exit id => exact ⟨.exit id, a₁, w₁, hq, fun k' hk => harr k' (by simp [exitTo, hk])⟩
  | goto l =>
    simp only [Exit.inScope] at hq
    split at hq
    · rename_i rest hf
      obtain ⟨e₂, a₂, w₂, hq₂, harr₂⟩ := hq b k cs
      exact ⟨e₂, a₂, w₂, hq₂, .of_steps (harr _ (by simp [gotoIn, hf])) harr₂⟩
    · rename_i hf
      exact ⟨.goto l, a₁, w₁, hq, fun k' hk => harr k' (by simp [gotoIn, hf, hk])⟩
  | ret => exact ⟨_, a₁, w₁, hq, harr⟩
  | panic ch => exact ⟨_, a₁, w₁, hq, harr⟩
  | outgrown => exact ⟨_, a₁, w₁, hq, harr⟩

/-! ### soundness -/
def Out.toExit : Out → Exit
  | .norm => .normal
  | .exit id => .exit id
  | .goto l => .goto l
  | .ret => .ret

/-- What is known when a piece of code has been left. -/
def Post (slots : List Nat) (n : Nat) (M : Mem) (out : Out) (st' : St) : Exit → Act → World → Prop :=
  fun e a' w' => e = out.toExit ∧ ∃ M', M'.w = w' ∧ FR M' slots n st' a' ∧ NoR M' ∧ Evo M M'

theorem Post.trans {M M' : Mem} {out : Out} {st' : St} (h : Evo M M') : ∀ e a w, Post slots n M' out st' e a w → Post slots n M out st' e a w := by
  rintro e a w ⟨h1, M'', h2, h3, h4, h5⟩
  exact ⟨h1, M'', h2, h3, h4, h.trans h5⟩

theorem Post.mk {M M' : Mem} {out : Out} {st' : St} {a' : Act} {w' : World} (hw : M'.w = w') (hf : FR M' slots n st' a') (hn : NoR M') (he : Evo M M') : Post slots n M out st' out.toExit a' w' := ⟨rfl, M', hw, hf, hn, he⟩

/-- All that holds of one evaluation. -/
structure Told (P : Program) (slots : List Nat) (n : Nat) (ac : AC) (M : Mem) (a : Act) (out : Out) (st' : St) : Prop where
  code : ∀ code, CodeT P slots n ac code → code.wp P (Post slots n M out st') a M.w
  loop : ∀ ks c, ac = .loop ks c → ∀ code, CodeT P slots n c code → LoopIn P code (Post slots n M out st') a M.w
  scope : ∀ ks c r, ac = .scope ks c r → ∀ code rest, CodeT P slots n c code → CodeT P slots n r rest → ScopeIn P code rest (Post slots n M out st') a M.w

def CSound (P : Program) (C : CodeSem) : Prop :=
  ∀ (slots : List Nat) (n : Nat) (ac : AC) (st : St) (out : Out) (st' : St), C ac st = some (out, st') → ∀ (M : Mem) (a : Act), FR M slots n st a → NoR M → Told P slots n ac M a out st'

theorem stepC_sound {C : CodeSem} (hC : CSound P C) (hCS : ∀ f, FnOk P CS f) : CSound P (stepC CS RP C) := by
  intro slots n ac st out st' hr M a hf hn
  cases ac with
  | skip =>
    simp only [stepC, Option.some.injEq, Prod.mk.injEq] at hr
    obtain ⟨rfl, rfl⟩ := hr
    exact ⟨fun code hc => by cases hc; exact wp_skip (.mk rfl hf hn (.refl M)), by simp, by simp⟩
  | frz i c =>
    simp only [stepC] at hr
    split at hr
    · rename_i m s xs hi
      obtain ⟨M', e1, e2, e3, e4⟩ := hf.frz hn hi
      have := hC slots n c _ out st' hr M' a e4 e3
      refine ⟨fun code hc => ?_, by simp, by simp⟩
      cases hc with
      | frz hc =>
        have := this.code _ hc
        rw [e1] at this
        exact wp_mono this (Post.trans e2)
    · simp at hr
  | ops dr al =>
    simp only [stepC] at hr
    split at hr
    · rename_i st1 h1
      simp only [Option.some.injEq, Prod.mk.injEq] at hr
      obtain ⟨rfl, rfl⟩ := hr
      refine ⟨fun code hc => ?_, by simp, by simp⟩
      cases hc with
      | @ops _ _ id ops draw hT =>
        obtain ⟨hF, hD⟩ := hT CS RP hCS
        have K : ∀ M0 : Mem, Evo M M0 → ∀ M' a', FR M' slots n st1 a' → NoR M' → Evo M0 M' → Post slots n M .norm (if dr = true then drop st1 else st1) .normal a' M'.w := by
          intro M0 e0 M' a' f' n' e'
          refine ⟨rfl, M', rfl, ?_, n', e0.trans e'⟩
          split
          · exact f'.drop
          · exact f'
        cases draw with
        | false =>
          refine wp_region ?_
          have := ops_sound hF al.length 0 M st a st1 (by omega) hf hn (by simpa using h1) (K M (.refl M))
          rw [List.range_eq_range', ← hF.1]
          exact this
        | true =>
          obtain ⟨hm, hs, hG⟩ := hD rfl
          refine wp_region_any hm ?_
          obtain ⟨f0, e0⟩ := hf.world (w' := { M.w with drawn := M.w.drawn + 1 }) rfl rfl rfl rfl
          have := draw_sound hF hs (Q := Post slots n M .norm (if dr = true then drop st1 else st1)) (fun c a w h => by have := h.1; simp [Out.toExit] at this) hG (by simp) _ st a st1 f0 (fun b k => hn b k) (by simpa using h1) (K _ e0)
          rw [upto_zero]
          exact this
    · simp at hr
  | ite c x y =>
    simp only [stepC] at hr
    split at hr
    · rename_i t ht
      refine ⟨fun code hc => ?_, by simp, by simp⟩
      cases hc with
      | @ite _ o _ _ ca cb hc h1 h2 =>
        obtain ⟨kt, hk⟩ := rd_trep hf hc
        rw [ht] at hk
        refine wp_cond (t := t) hk.bool ?_
        cases t with
        | true => exact (hC slots n x _ out st' (by simpa using hr) M a hf.drop hn).code _ h1
        | false => exact (hC slots n y _ out st' (by simpa using hr) M a hf.drop hn).code _ h2
    · simp at hr
  | seq x y =>
    simp only [stepC] at hr
    refine ⟨fun code hc => ?_, by simp, by simp⟩
    cases hc with
    | @seq _ _ ca cb h1 h2 =>
      refine wp_seq ?_
      split at hr
      · rename_i st1 hx
        refine wp_mono ((hC slots n x st _ st1 hx M a hf hn).code _ h1) ?_
        rintro e a1 w1 ⟨rfl, M1, rfl, f1, n1, e1⟩
        exact wp_mono ((hC slots n y st1 out st' hr M1 a1 f1 n1).code _ h2) (Post.trans e1)
      · rename_i hx
        refine wp_mono ((hC slots n x st out st' hr M a hf hn).code _ h1) ?_
        rintro e a1 w1 ⟨rfl, hp⟩
        cases out with
        | norm => exact absurd hr (hx _)
        | _ => exact ⟨rfl, hp⟩
  | block id c =>
    simp only [stepC] at hr
    refine ⟨fun code hc => ?_, by simp, by simp⟩
    cases hc with
    | @block _ _ code hc =>
      refine wp_block ?_
      split at hr
      · rename_i id' st1 hx
        refine wp_mono ((hC slots n c st _ st1 hx M a hf hn).code _ hc) ?_
        rintro e a1 w1 ⟨rfl, hp⟩
        simp only [Out.toExit, Exit.inBlock]
        split at hr
        · rename_i he
          simp only [Option.some.injEq, Prod.mk.injEq] at hr
          obtain ⟨rfl, rfl⟩ := hr
          rw [if_pos he]
          exact ⟨rfl, hp⟩
        · rename_i he
          simp only [Option.some.injEq, Prod.mk.injEq] at hr
          obtain ⟨rfl, rfl⟩ := hr
          rw [if_neg he]
          exact ⟨rfl, hp⟩
      · rename_i hx
        refine wp_mono ((hC slots n c st out st' hr M a hf hn).code _ hc) ?_
        rintro e a1 w1 ⟨rfl, hp⟩
        cases out with
        | exit id' => exact absurd hr (hx _ _)
        | _ => exact ⟨rfl, hp⟩
  | loop ks c =>
    simp only [stepC] at hr
    have key : ∀ code, CodeT P slots n c code → LoopIn P code (Post slots n M out st') a M.w := by
      intro code hc
      refine loopIn_of ?_
      split at hr
      · rename_i st1 hx
        refine wp_mono ((hC slots n c _ _ st1 hx M a (hf.killV ks) hn).code _ hc) ?_
        rintro e a1 w1 ⟨rfl, M1, rfl, f1, n1, e1⟩
        have := (hC slots n _ st1 out st' hr M1 a1 f1 n1).loop ks c rfl code hc
        intro b k cs
        obtain ⟨e, a', w', q, r⟩ := this b k cs
        exact ⟨e, a', w', Post.trans e1 _ _ _ q, r⟩
      · rename_i hx
        refine wp_mono ((hC slots n c _ out st' hr M a (hf.killV ks) hn).code _ hc) ?_
        rintro e a1 w1 ⟨rfl, hp⟩
        cases out with
        | norm => exact absurd hr (hx _)
        | _ => exact ⟨rfl, hp⟩
    refine ⟨fun code hc => ?_, fun ks' c' e => ?_, by simp⟩
    · cases hc with
      | loop hc => exact wp_of_loopIn (key _ hc)
    · simp only [AC.loop.injEq] at e
      obtain ⟨rfl, rfl⟩ := e
      exact key
  | scope ks c cur =>
    simp only [stepC] at hr
    have key : ∀ code rest, CodeT P slots n c code → CodeT P slots n cur rest → ScopeIn P code rest (Post slots n M out st') a M.w := by
      intro code rest hc hrest
      refine scopeIn_of ?_
      split at hr
      · rename_i l st1 hx
        refine wp_mono ((hC slots n cur st _ st1 hx M a hf hn).code _ hrest) ?_
        rintro e a1 w1 ⟨rfl, M1, rfl, f1, n1, e1⟩
        simp only [Out.toExit, Exit.inScope]
        split at hr
        · rename_i r hl
          obtain ⟨rest', hl', hT⟩ := findL_some hc hl
          rw [hl']
          have := (hC slots n _ _ out st' hr M1 a1 (f1.killV ks) n1).scope ks c r rfl code rest' hc hT
          intro b k cs
          obtain ⟨e, a', w', q, r⟩ := this b k cs
          exact ⟨e, a', w', Post.trans e1 _ _ _ q, r⟩
        · rename_i hl
          rw [findL_none hc hl]
          simp only [Option.some.injEq, Prod.mk.injEq] at hr
          obtain ⟨rfl, rfl⟩ := hr
          exact ⟨rfl, M1, rfl, f1, n1, e1⟩
      · rename_i hx
        refine wp_mono ((hC slots n cur st out st' hr M a hf hn).code _ hrest) ?_
        rintro e a1 w1 ⟨rfl, hp⟩
        cases out with
        | goto l => exact absurd hr (hx _ _)
        | _ => exact ⟨rfl, hp⟩
    refine ⟨fun code hc => (by cases hc), by simp, fun ks' c' r' e => ?_⟩
    simp only [AC.scope.injEq] at e
    obtain ⟨rfl, rfl, rfl⟩ := e
    exact key
  | sc ks c =>
    simp only [stepC] at hr
    refine ⟨fun code hc => ?_, by simp, by simp⟩
    cases hc with
    | scope hc => exact wp_of_scopeIn ((hC slots n _ st out st' hr M a hf hn).scope ks c c rfl _ _ hc hc)
  | label l =>
    simp only [stepC, Option.some.injEq, Prod.mk.injEq] at hr
    obtain ⟨rfl, rfl⟩ := hr
    exact ⟨fun code hc => by cases hc; exact wp_label (.mk rfl hf hn (.refl M)), by simp, by simp⟩
  | goto l =>
    simp only [stepC, Option.some.injEq, Prod.mk.injEq] at hr
    obtain ⟨rfl, rfl⟩ := hr
    exact ⟨fun code hc => by cases hc; exact wp_goto (.mk rfl hf hn (.refl M)), by simp, by simp⟩
  | exit id =>
    simp only [stepC, Option.some.injEq, Prod.mk.injEq] at hr
    obtain ⟨rfl, rfl⟩ := hr
    exact ⟨fun code hc => by cases hc; exact wp_exit (.mk rfl hf hn (.refl M)), by simp, by simp⟩
  | ret =>
    simp only [stepC, Option.some.injEq, Prod.mk.injEq] at hr
    obtain ⟨rfl, rfl⟩ := hr
    exact ⟨fun code hc => by cases hc; exact wp_ret (.mk rfl hf hn (.refl M)), by simp, by simp⟩

end
end Go.VS
/- Functions: what they are entered with, what they answer. -/
set_option linter.unusedVariables false
namespace Go.VS

section
variable {P : Program} {CS : CallSem} {RP : FuncId → Option (List AV → Option AV)} {slots : List Nat} {n : Nat} {M : Mem} {st : St} {a : Act}

/-- How a result is told. -/
def ResT (P : Program) (slots : List Nat) : ResultVar → ARes → Prop
  | .tmp t, .v i => slots[i]? = some t
  | .cell t T, .cell i sz => slots[i]? = some t ∧ KindIs P T sz
  | _, _ => False

def readRes (tmps : Array Value) : ResultVar → Sem Value
  | .tmp t => pure (tmps.getD t undef)
  | .cell a t => do loadVar t (← asAddr (tmps.getD a undef))

theorem outV_has {M : Mem} {key key' : Key} {x r : AV} {v : Value} (h : Has M key x v) (ho : outV x = some r) {f : Key → Key} (hf : f key = key') : Has (M.ren f) key' r v := by
  subst hf
  unfold outV at ho
  split at ho
  · simp only [Option.some.injEq] at ho
    subst ho
    exact full_own (show RepV M.S M.G M.w (.sl .full _ []) v from h)
  · simp only [Option.some.injEq] at ho
    subst ho
    exact h.ren
  · split at ho
    · rename_i hp
      simp only [Option.some.injEq] at ho
      subst ho
      exact h.ren
    · simp at ho

theorem outV_good {x r : AV} (ho : outV x = some r) : Good r := by
  unfold outV at ho
  split at ho
  · simp only [Option.some.injEq] at ho; subst ho; exact .inr ⟨_, _, _, rfl⟩
  · simp only [Option.some.injEq] at ho; subst ho; exact .inr ⟨_, _, _, rfl⟩
  · split at ho
    · rename_i hp; simp only [Option.some.injEq] at ho; subst ho; exact .inl hp
    · simp at ho

theorem good_res {x : AV} {v : Value} (hg : Good x) {k : Nat} (h : Has M (.r k) x v) (hk : k = 0) : ResRep M x v := by
  subst hk
  rcases hg with hp | ⟨m, s, xs, rfl⟩
  · refine rep_trep hp ?_
    unfold Has at h
    split at h
    · simp [plain] at hp
    · exact h
  · exact h

theorem vrep_has {i : Nat} {x r : AV} {v : Value} (h : VRep M i x v) (ho : outV x = some r) : Has M (.v i 0) x v := by
  unfold VRep at h
  split at h
  · simp [outV, plain] at ho
  · exact h

theorem res_sound (h : FR M slots n st a) {rv : ResultVar} {ar : ARes} (hT : ResT P slots rv ar) (k : Nat) {x : AV} {st1 : St} (hr : resOf st ar = some (x, st1)) :
    ∃ v M1, (readRes a.tmps rv).run P M.w = .ok v M.w ∧ M1.w = M.w ∧ Evo M M1 ∧ FR M1 slots n st1 a ∧ Has M1 (.r k) x v ∧ st1.store = st.store ∧ Good x ∧ ∀ j y u, Has M (.r j) y u → Has M1 (.r j) y u := by
  have renCase : ∀ (i kk : Nat) (x0 : AV) (v : Value), Has M (.v i kk) x0 v → outV x0 = some x → i < slots.length → (readRes a.tmps rv).run P M.w = .ok v M.w → st1 = setV st i .undef →
      ∃ v M1, (readRes a.tmps rv).run P M.w = .ok v M.w ∧ M1.w = M.w ∧ Evo M M1 ∧ FR M1 slots n st1 a ∧ Has M1 (.r k) x v ∧ st1.store = st.store ∧ Good x ∧ ∀ j y u, Has M (.r j) y u → Has M1 (.r j) y u := by
    intro i kk x0 v hx ho hl hrun hst
    subst hst
    let f : Key → Key := fun q => if q = .v i kk then .r k else q
    have hf : ∀ q, q ≠ .v i kk → f q = q := fun q hq => if_neg hq
    refine ⟨v, M.ren f, hrun, rfl, M.ren_evo f, ?_, outV_has hx ho (if_pos rfl), rfl, outV_good ho, fun j y u hj => ?_⟩
    · exact h.setVar (M.ren_evo f).grow (h.wf.ren (by intro q hq; exact hf q (by intro e; subst e; simp [Key.isG] at hq))) (fun _ _ h => h) (List.getElem?_eq_getElem hl)
        (fun b q hb hq _ => Mem.ren_pres hb (hf q (by intro e; subst e; exact hq rfl))) (v := a.tmps.getD slots[i] undef) (by simp [VRep, Has, RepV]) h.size h.defers rfl (fun _ _ => rfl)
    · have := hj.ren (f := f)
      rwa [hf _ (by simp)] at this
  cases ar with
  | v i =>
    cases rv with
    | cell t T => exact hT.elim
    | tmp t =>
      have hi : slots[i]? = some t := hT
      have hl := (List.getElem?_eq_some_iff.1 hi).1
      simp only [resOf] at hr
      split at hr
      · rename_i av hav
        split at hr
        · rename_i r ho
          simp only [Option.some.injEq, Prod.mk.injEq] at hr
          obtain ⟨rfl, rfl⟩ := hr
          exact renCase i 0 av _ (vrep_has (h.vars i t av hi hav) ho) ho hl (by simp [readRes]) rfl
        · simp at hr
      · simp at hr
  | cell i sz =>
    cases rv with
    | tmp t => exact hT.elim
    | cell t T =>
      obtain ⟨hi, hk⟩ := hT
      have hl := (List.getElem?_eq_some_iff.1 hi).1
      simp only [resOf] at hr
      split at hr
      · rename_i cs hav
        have hv := h.vars i t _ hi hav
        simp only [VRep, LBox] at hv
        obtain ⟨b, e1, e2, e3, c, et, fr, e4, e5, e6, e7⟩ := hv
        have hcell : ∀ k v, c[k]? = some v → cellAt M.w b k = some v := by
          intro k v hkv
          simp [cellAt, World.cell?, e4, hkv]
        have hread : ∀ {v : Value}, (loadVar T ⟨b, 0, none⟩).run P M.w = .ok v M.w → (readRes a.tmps (.cell t T)).run P M.w = .ok v M.w := by
          intro v hlv
          simp only [readRes, e1, asAddr, Sem.run_bind, Sem.run_pure, Result.andThen_ok, hlv]
        split at hr
        · split at hr
          · rename_i cv
            split at hr
            · rename_i r ho
              simp only [Option.some.injEq, Prod.mk.injEq] at hr
              obtain ⟨rfl, rfl⟩ := hr
              obtain ⟨v, h1, h2, h3⟩ := e7 0 cv rfl
              exact renCase i 1 cv v h3 ho hl (hread (loadVar_one hk (hcell _ _ h1))) rfl
            · simp at hr
          · simp at hr
        · rename_i m
          split at hr
          · rename_i hlen
            split at hr
            · rename_i l hw
              simp only [Option.some.injEq, Prod.mk.injEq] at hr
              obtain ⟨rfl, rfl⟩ := hr
              have hR := wholes_rep (M := M) (ck := fun k => .v i (k + 1)) (i := 0) (c := c.toList) hw (fun k x hx => by
                obtain ⟨v, h1, h2, h3⟩ := e7 k x hx
                exact ⟨v, by simpa using h1, h2, by simpa using h3⟩) (by simpa using e5)
              have hA : At M.w b 0 c.toList := at_of_block e4 _ _ (fun j v hj => by simpa using hj)
              refine ⟨.agg c, M, hread ?_, rfl, .refl M, h, ?_, rfl, .inl rfl, fun _ _ _ h => h⟩
              · have := loadVar_agg (P := P) (t := T) hk (vs := c.toList) (by simp; omega) hA
                simpa using this
              · exact ⟨c, rfl, hR⟩
            · simp at hr
          · simp at hr
      · simp at hr

theorem resL_sound : ∀ {rvs : List ResultVar} {ars : List ARes} {M : Mem} {st : St}, FR M slots n st a → rvs.length = ars.length → (∀ (j : Nat) rv ar, rvs[j]? = some rv → ars[j]? = some ar → ResT P slots rv ar) → ∀ (k : Nat) {l : List AV}, resL st ars = some l →
    ∃ vs M1, (rvs.mapM (readRes a.tmps)).run P M.w = .ok vs M.w ∧ M1.w = M.w ∧ Evo M M1 ∧ M1.Wf ∧ StoreRep M1 st.store ∧ vs.length = l.length ∧ l.length = ars.length ∧ (∀ j x, l[j]? = some x → Good x ∧ ∃ v, vs[j]? = some v ∧ Has M1 (.r (k + j)) x v) ∧ ∀ j y u, Has M (.r j) y u → Has M1 (.r j) y u
  | [], [], M, st, h, _, _, k, l, hr => by
    simp only [resL, Option.some.injEq] at hr
    subst hr
    exact ⟨[], M, by simp, rfl, .refl M, h.wf, h.store, rfl, rfl, by simp, fun _ _ _ h => h⟩
  | rv :: rvs, ar :: ars, M, st, h, hl, hT, k, l, hr => by
    simp only [resL] at hr
    split at hr
    · rename_i x st1 h1
      split at hr
      · rename_i l' h2
        simp only [Option.some.injEq] at hr
        subst hr
        obtain ⟨v, M1, r1, r2, r3, r4, r5, r6, r8, r7⟩ := res_sound h (hT 0 rv ar rfl rfl) k h1
        obtain ⟨vs, M2, q1, q2, q3, q4, q5, q6, q7, q8, q9⟩ := resL_sound r4 (by simpa using hl) (fun j rv ar h1 h2 => hT (j + 1) rv ar (by simpa using h1) (by simpa using h2)) (k + 1) h2
        refine ⟨v :: vs, M2, ?_, q2.trans r2, r3.trans q3, q4, by rw [← r6]; exact q5, by simp [q6], by simp [q7], fun j x hj => ?_, fun j y u hu => q9 j y u (r7 j y u hu)⟩
        · rw [r2] at q1
          simp only [List.mapM_cons, Sem.run_bind, r1, Result.andThen_ok, q1, Sem.run_pure]
        · cases j with
          | zero =>
            simp only [List.getElem?_cons_zero, Option.some.injEq] at hj
            subst hj
            exact ⟨r8, v, rfl, q9 _ _ _ r5⟩
          | succ j =>
            obtain ⟨gg, u, hu, hh⟩ := q8 j x (by simpa using hj)
            exact ⟨gg, u, by simpa using hu, by rw [show k + (j + 1) = k + 1 + j by omega]; exact hh⟩
      · simp at hr
    · simp at hr
  | [], _ :: _, _, _, _, hl, _, _, _, _ => by simp at hl
  | _ :: _, [], _, _, _, hl, _, _, _, _ => by simp at hl

/-- What was given is nobody's. -/
def Mem.ungive (M : Mem) : Mem := { M with own := fun b => match M.own b with | some k => if k.isG then some k else none | none => none }

theorem ungive_g {M : Mem} {b : Nat} {k : Key} (h : M.own b = some k) (hk : k.isG = true) : M.ungive.own b = some k := by simp [Mem.ungive, h, hk]

theorem ungive_is {M : Mem} {b : Nat} {k : Key} (h : M.ungive.own b = some k) : M.own b = some k ∧ k.isG = true := by
  simp only [Mem.ungive] at h
  split at h
  · split at h
    · rename_i hq hk
      simp only [Option.some.injEq] at h
      subst h
      exact ⟨hq, hk⟩
    · simp at h
  · simp at h

theorem ungive_noR {M : Mem} : NoR M.ungive := fun b k hb => by have := (ungive_is hb).2; simp [Key.isG] at this

theorem ungive_wf {M : Mem} (h : M.Wf) : M.ungive.Wf where
  sdom := h.sdom
  odom b k hk := h.odom b k (ungive_is hk).1
  gown id b hb := by
    rcases h.gown id b hb with e | e
    · exact .inl (ungive_g e rfl)
    · exact .inr (ungive_g e rfl)

theorem ungive_store {M : Mem} {store : List Obj} (h : StoreRep M store) : StoreRep M.ungive store :=
  StoreRep.pres (M := M) (M' := M.ungive) (Grow.refl M.S M.G M.w) (fun _ _ h => h) (fun b k hb hk => ⟨(ungive_g hb hk).trans hb.symm, rfl, fun _ h => h⟩) h

theorem ungive_none {M : Mem} {b : Nat} (h : M.own b = none) : M.ungive.own b = none := by simp [Mem.ungive, h]

theorem ungive_evo {M M' : Mem} (e : Evo M.ungive M') : Evo M M' where
  grow := e.grow
  size := e.size
  os := e.os
  tape := e.tape
  output := e.output
  same b hb ho := e.same b hb (ungive_none ho)
  acq b hb ho := e.acq b hb (ungive_none ho)
  snew b j hs := by
    rcases e.snew b j hs with h | h | h
    · exact .inl h
    · exact .inr (.inl h)
    · exact .inr (.inr fun ho => h (ungive_none ho))

theorem args_repvs {M : Mem} : ∀ {vs : List AV} {args : List Value}, ArgsRep M vs args → (∀ x ∈ vs, plain x = true) → RepVs M vs args := by
  have key : ∀ {vs : List AV} {args : List Value} (k : Nat), (args.length = vs.length ∧ ∀ (j : Nat) (x : AV), vs[j]? = some x → ∃ v, args[j]? = some v ∧ Has M (.r (k + j)) x v) → (∀ x ∈ vs, plain x = true) → RepVs M vs args := by
    intro vs
    induction vs with
    | nil => intro args k h _; exact List.length_eq_zero_iff.1 h.1
    | cons y ys ih =>
      intro args k h hp
      cases args with
      | nil => simp at h
      | cons v r =>
        obtain ⟨v', h1, h2⟩ := h.2 0 y rfl
        simp only [List.getElem?_cons_zero, Option.some.injEq] at h1
        subst h1
        have hpy := hp y (by simp)
        refine ⟨v, r, rfl, ?_, ih (k + 1) ⟨by simpa using h.1, fun j x hj => ?_⟩ fun x hx => hp x (by simp [hx])⟩
        · unfold Has at h2
          split at h2
          · simp [plain] at hpy
          · exact h2
        · obtain ⟨u, h3, h4⟩ := h.2 (j + 1) x (by simpa using hj)
          exact ⟨u, by simpa using h3, by rw [show k + 1 + j = k + (j + 1) by omega]; exact h4⟩
  intro vs args h hp
  exact key 0 ⟨h.1, fun j x hj => by obtain ⟨_, v, h1, h2⟩ := h.2 j x hj; exact ⟨v, h1, by simpa using h2⟩⟩ hp

/-- A function of the table and the function of the program. -/
structure FnT (P : Program) (f : FuncId) (fn : AFunc) : Prop where
  ex : ∃ func code, P.funcs[f]? = some func ∧ func.body = some code ∧ (func.name == "runtime.NumGoroutine") = false ∧ func.ntmps = fn.n ∧ CodeT P fn.slots fn.n fn.body code ∧
    func.results.size = fn.res.length ∧ ∀ (j : Nat) (rv : ResultVar) (ar : ARes), func.results[j]? = some rv → fn.res[j]? = some ar → ResT P fn.slots rv ar
  nodup : fn.slots.Nodup
  lt : ∀ x ∈ fn.slots, x < fn.n

theorem enter_fr {fn : AFunc} {f : FuncId} (hT : FnT P f fn) (wf : M.Wf) {vs : List AV} {args : List Value} (hR : RepVs M vs args) (hp : ∀ x ∈ vs, plain x = true) {store : List Obj} (hs : StoreRep M store) (hl : vs.length ≤ fn.n) :
    FR M fn.slots fn.n (enter fn vs store) { tmps := args.toArray ++ Array.replicate (fn.n - args.toArray.size) undef, defers := [] } := by
  have len : ∀ {vs : List AV} {args : List Value}, RepVs M vs args → args.length = vs.length := by
    intro vs
    induction vs with
    | nil => intro args h; simp only [RepVs] at h; subst h; rfl
    | cons x xs ih => intro args h; obtain ⟨v, r, rfl, _, h⟩ := h; simp [ih h]
  have get : ∀ {vs : List AV} {args : List Value}, RepVs M vs args → ∀ {k : Nat} {x : AV}, vs[k]? = some x → ∃ v, args[k]? = some v ∧ RepV M.S M.G M.w x v := by
    intro vs
    induction vs with
    | nil => intro args h k x hx; simp at hx
    | cons y xs ih =>
      intro args h k x hx
      obtain ⟨v, r, rfl, h1, h2⟩ := h
      cases k with
      | zero => simp only [List.getElem?_cons_zero, Option.some.injEq] at hx; subst hx; exact ⟨v, rfl, h1⟩
      | succ k => exact ih h2 (by simpa using hx)
  have hlen := len hR
  refine { wf := wf, size := by simp; omega, defers := rfl, len := by simp [enter], nodup := hT.nodup, lt := hT.lt, vars := ?_, tmps := fun x hx => by simp [enter, look, TRep, Has, RepV], store := hs }
  · intro i x av hx hav
    simp only [enter, List.getElem?_map, hx, Option.map_some, Option.some.injEq] at hav
    subst hav
    rw [List.getD_eq_getElem?_getD]
    cases hv : vs[x]? with
    | none => simp [VRep, Has, RepV]
    | some y =>
      obtain ⟨v, h1, h2⟩ := get hR hv
      have hxl : x < args.length := (List.getElem?_eq_some_iff.1 h1).1
      have : (args.toArray ++ Array.replicate (fn.n - args.toArray.size) undef).getD x undef = v := by
        rw [Array.getD_eq_getD_getElem?, Array.getElem?_append_left (by simpa using hxl)]
        simp [h1]
      rw [this]
      exact plain_vrep (hp y (List.mem_of_getElem? hv)) h2

theorem results_eq (func : Func) (tmps : Array Value) : results func tmps = (do
    let vs ← func.results.mapM (readRes tmps)
    pure (if h : vs.size = 1 then vs[0] else .tuple vs)) := by
  unfold results
  congr 1

theorem fn_sound {AP : FuncId → Option AFn} {C : CodeSem} (hC : CSound P C) (hT : ∀ f fn, AP f = some (.code fn) → FnT P f fn) (hP : ∀ f p, AP f = some (.prim p) → FnOk P (fun _ vs store => p vs store) f) :
    ∀ f, FnOk P (runF AP C) f := by
  intro f M1 vs args store r store' wf ho hA hs hr
  simp only [runF] at hr
  split at hr
  · rename_i fn hfn
    split at hr
    · rename_i hle
      simp only [Bool.and_eq_true, decide_eq_true_eq, List.all_eq_true] at hle
      obtain ⟨hle, hp⟩ := hle
      let M : Mem := M1.ungive
      have hR : RepVs M vs args := RepVs.mono (M := M1) (M' := M) (Grow.refl M1.S M1.G M1.w) (args_repvs hA hp)
      have wf := ungive_wf wf
      have hs := ungive_store hs
      have hft := hT f fn hfn
      obtain ⟨func, code, q1, q2, q3, q4, q5, q6, q7⟩ := hft.ex
      refine ⟨⟨func, q1, by rw [q2]; rfl, q3⟩, ?_⟩
      have hfr := enter_fr hft wf hR hp hs hle
      have hnr : NoR M := ungive_noR
      suffices hcalls : Calls P f args.toArray M.w fun e w' => ∃ v M', e = .returned v ∧ w' = M'.w ∧ Evo M M' ∧ M'.Wf ∧ ResRep M' r v ∧ StoreRep M' store' from
        hcalls.mono fun e w' ⟨v, M', e1, e2, e3, e4⟩ => ⟨v, M', e1, e2, ungive_evo e3, e4⟩
      have fin : ∀ {st : St} {a' : Act} {M' : Mem}, leave fn st = some (r, store') → FR M' fn.slots fn.n st a' → Evo M M' → a'.defers = [] ∧ ∃ v, (results func a'.tmps).run P M'.w = .ok v M'.w ∧
          (∃ v' M'', Ending.returned v = .returned v' ∧ M'.w = M''.w ∧ Evo M M'' ∧ M''.Wf ∧ ResRep M'' r v' ∧ StoreRep M'' store') := by
        intro st a' M' hlv hf' he'
        refine ⟨hf'.defers, ?_⟩
        rw [results_eq]
        have hmap : ∀ (w : World) vs, (func.results.toList.mapM (readRes a'.tmps)).run P w = .ok vs w → (func.results.mapM (readRes a'.tmps)).run P w = .ok vs.toArray w := by
          intro w vs h
          rw [Array.mapM_eq_mapM_toList]
          show (List.toArray <$> _ : Sem _).run P w = _
          rw [← bind_pure_comp, Sem.run_bind, h]
          simp
        have base : ∀ k, ∀ {l}, resL st fn.res = some l → _ := fun k l hl => resL_sound (P := P) (rvs := func.results.toList) hf' (by simpa using q6) (fun j rv ar h1 h2 => q7 j rv ar (by simpa using h1) h2) k hl
        unfold leave at hlv
        split at hlv
        · rename_i x hl
          simp only [Option.some.injEq, Prod.mk.injEq] at hlv
          obtain ⟨rfl, rfl⟩ := hlv
          obtain ⟨us, M2, r1, r2, r3, r4, r5, r6, r7, r8, _⟩ := base 0 hl
          obtain ⟨gg, v, hv, hh⟩ := r8 0 x rfl
          have hu : us = [v] := by
            cases us with
            | nil => simp at hv
            | cons u us =>
              simp only [List.length_cons, List.length_nil] at r6
              have : us = [] := List.length_eq_zero_iff.1 (by omega)
              subst this
              simpa using hv
          subst hu
          refine ⟨v, ?_, v, M2, rfl, r2.symm, he'.trans r3, r4, ?_, r5⟩
          · rw [Sem.run_bind, hmap _ _ r1]
            simp
          · exact good_res gg hh rfl
        · rename_i l hne hl
          simp only [Option.some.injEq, Prod.mk.injEq] at hlv
          obtain ⟨rfl, rfl⟩ := hlv
          obtain ⟨us, M2, r1, r2, r3, r4, r5, r6, r7, r8, _⟩ := base 1 hl
          refine ⟨.tuple us.toArray, ?_, .tuple us.toArray, M2, rfl, r2.symm, he'.trans r3, r4, ?_, r5⟩
          · rw [Sem.run_bind, hmap _ _ r1]
            have : us.length ≠ 1 := by
              intro e
              rw [r6] at e
              cases l with
              | nil => simp at e
              | cons x l =>
                have : l = [] := List.length_eq_zero_iff.1 (by simpa using e)
                subst this
                exact hne _ rfl
            simp [this]
          · refine ⟨us.toArray, rfl, by simpa using r6, fun k x hk => ?_⟩
            obtain ⟨_, v, h1, h2⟩ := r8 k x hk
            exact ⟨v, by simpa using h1, by show Has M2 (.r (k + 1)) x v; rw [Nat.add_comm k 1]; exact h2⟩
        · simp at hlv
      have go : ∀ {out : Out} {st : St}, C fn.body (enter fn vs store) = some (out, st) → (out = .norm ∨ out = .ret) → leave fn st = some (r, store') → Calls P f args.toArray M.w fun e w' => ∃ v M', e = .returned v ∧ w' = M'.w ∧ Evo M M' ∧ M'.Wf ∧ ResRep M' r v ∧ StoreRep M' store' := by
        intro out st hbody hout hlv
        refine calls_of_wp q1 q2 ?_
        rw [q4]
        refine wp_mono ((hC fn.slots fn.n fn.body _ out st hbody M _ hfr hnr).code code q5) ?_
        rintro e a' w' ⟨rfl, M', rfl, f', n', e'⟩
        have := fin hlv f' e'
        rcases hout with rfl | rfl <;> exact this
      split at hr
      · rename_i st hbody
        exact go hbody (.inl rfl) hr
      · rename_i st hbody
        exact go hbody (.inr rfl) hr
      · simp at hr
    · simp at hr
  · rename_i p hp'
    exact hP f p hp' M1 vs args store r store' wf ho hA hs hr
  · simp at hr

theorem eval_sound {AP : FuncId → Option AFn} (hT : ∀ f fn, AP f = some (.code fn) → FnT P f fn) (hP : ∀ f p, AP f = some (.prim p) → FnOk P (fun _ vs store => p vs store) f) :
    ∀ N, CSound P (evalC AP RP N)
  | 0 => fun slots n ac st out st' h => by simp [evalC] at h
  | N + 1 => by
    rw [evalC]
    exact stepC_sound (eval_sound hT hP N) (fn_sound (eval_sound hT hP N) hT hP)

theorem evalF_sound {AP : FuncId → Option AFn} (hT : ∀ f fn, AP f = some (.code fn) → FnT P f fn) (hP : ∀ f p, AP f = some (.prim p) → FnOk P (fun _ vs store => p vs store) f) (N : Nat) (f : FuncId) :
    FnOk P (evalF AP RP N) f := fn_sound (eval_sound hT hP N) hT hP f

end
end Go.VS
/- Operations: a string's bytes. -/
set_option linter.unusedVariables false
namespace Go.VS

section
variable {P : Program} {CS : CallSem} {RP : FuncId → Option (List AV → Option AV)} {slots : List Nat} {n : Nat} {M : Mem} {st : St} {a : Act}

theorem bytes_flat (l : List UInt8) : Flat M.S M.G M.w 1 (l.map encByte) (l.map fun b => Value.int .u8 (b.toNat : Int)) := by
  induction l with
  | nil => simp [Flat]
  | cons b l ih =>
    simp only [List.map_cons, Flat]
    exact ⟨[.int .u8 (b.toNat : Int)], _, rfl, rfl, by simp [Value.oneCell'], by simp [encByte, Rep], ih⟩

theorem fits_s2b {o : Oper} {x : Operand} {T T' e : TypeId} (ho : o.op = .convert T T' x) (hu : P.underlying T = some .string) (hu' : P.underlying T' = some (.slice e)) (he : P.underlying e = some (.int .u8)) {d : Dst} {rx : Ref}
    (hd : chkDstO slots n o.dst d = true) (hx : chkRef slots x rx = true) : OpFits P CS RP slots n o (.s2b d rx) := by
  intro M st a st' h hn hr next Q K
  simp only [runOp] at hr
  obtain ⟨kx, tx⟩ := rd_trep h hx
  split at hr
  · rename_i l hl
    rw [hl] at tx
    split at hr
    · rename_i hlim
      have hsz : (ByteArray.mk l.toArray).size = l.length := by simp [ByteArray.size]
      have hr1 := run_bytes_of_string M.w T T' e (ByteArray.mk l.toArray) hu hu' he
      rw [hsz] at hr1
      have hrun : (execOp a.eval o).run P M.w = .ok (.value (.slice (some ⟨M.w.heap.size, 0, none⟩) l.length (grownCap M.w l.length 0 e)))
          (M.w.drew.alloc (.cells (bytesRow ⟨l.toArray⟩ (grownCap M.w l.length 0 e)) e ((bytesRow ⟨l.toArray⟩ (grownCap M.w l.length 0 e)).size, (bytesRow ⟨l.toArray⟩ (grownCap M.w l.length 0 e)).size + 1))) := by
        simp only [execOp, ho, tx.str, Sem.run_bind, hr1, Result.andThen_ok, Sem.run_pure]
      rw [hrun]
      have hp1 := Plus.drewAlloc M.w (.cells (bytesRow ⟨l.toArray⟩ (grownCap M.w l.length 0 e)) e ((bytesRow ⟨l.toArray⟩ (grownCap M.w l.length 0 e)).size, (bytesRow ⟨l.toArray⟩ (grownCap M.w l.length 0 e)).size + 1))
      have hcap := grownCap_ge M.w l.length 0 e
      have hrow : (bytesRow ⟨l.toArray⟩ (grownCap M.w l.length 0 e)).size = grownCap M.w l.length 0 e := by
        simp [bytesRow, hsz]; omega
      have hcell : ∀ (j : Nat) (v : Value), (l.map fun b => Value.int .u8 (b.toNat : Int))[j]? = some v → (bytesRow ⟨l.toArray⟩ (grownCap M.w l.length 0 e))[j]? = some v := by
        intro j v hj
        have hjl : j < l.length := by simpa using (List.getElem?_eq_some_iff.1 hj).1
        rw [bytesRow_at _ _ _ (by simpa using hjl)]
        simpa [hjl] using hj
      cases l with
      | nil =>
        refine value_ok (av := .sl .none 1 []) (alloc_fr h hp1 (.r 0)) (alloc_evo h.wf hp1 (.r 0)) hd ?_ hr rfl K
        refine rep_trep rfl ?_
        simp only [RepV, Rep]
        exact .inr ⟨_, _, _, rfl, by simp, by simp, by simp [Els]⟩
      | cons b l =>
        have hN := new_arr (key := .r 0) (cap := grownCap M.w (b :: l).length 0 e) h.wf hp1 (bytes_flat (b :: l)) hcell (by simpa using hcap) (by rw [hrow]; omega) (fun j hj => by rw [Bool.and_eq_false_iff, decide_eq_false_iff_not]; exact .inl (Nat.not_le.2 hj)) (by simp)
        refine value_ok (av := .sl (.own true) 1 ((b :: l).map encByte)) (alloc_fr h hp1 (.r 0)) (alloc_evo h.wf hp1 (.r 0)) hd ?_ hr rfl K
        rw [List.length_map] at hN
        exact hN
    · simp at hr
  · simp at hr

theorem fits_eqv {o : Oper} {T T' : TypeId} {neg : Bool} {x y : Operand} (ho : o.op = .binOp (if neg then .neq else .eql) T x y T') (hu : P.underlying T = some .bool) {d : Dst} {rx ry : Ref}
    (hd : chkDstO slots n o.dst d = true) (hx : chkRef slots x rx = true) (hy : chkRef slots y ry = true) : OpFits P CS RP slots n o (.eqv d neg rx ry) := by
  intro M st a st' h hn hr next Q K
  simp only [runOp] at hr
  obtain ⟨kx, tx⟩ := rd_trep h hx
  obtain ⟨ky, ty⟩ := rd_trep h hy
  split at hr
  · rename_i p q hp hq
    rw [hp] at tx
    rw [hq] at ty
    have he : (Op.equal T (.bool p) (.bool q)).run P M.w = .ok (p == q) M.w := by
      unfold Op.equal
      show (Op.equalIn (Op.maxDepth) T _ _).run P M.w = _
      unfold Op.maxDepth Op.equalIn
      rw [Sem.run_bind, run_underlying hu]
      rfl
    have hrun : (execOp a.eval o).run P M.w = .ok (.value (.bool (if neg then !(p == q) else p == q))) M.w := by
      cases neg <;> simp [execOp, ho, tx.bool, ty.bool, eqGuard, binOp, he]
    rw [hrun]
    exact value_pure h hd (rep_trep rfl (by simp [RepV, Rep])) hr rfl K
  · simp at hr

theorem fits_mnx {o : Oper} {mx : Bool} {x y : Operand} {ts : Array TypeId} (ho : o.op = .call { callee := .builtin (if mx then .max else .min), args := #[x, y], argTypes := ts }) {d : Dst} {rx ry : Ref}
    (hd : chkDstO slots n o.dst d = true) (hx : chkRef slots x rx = true) (hy : chkRef slots y ry = true) : OpFits P CS RP slots n o (.mnx d mx rx ry) := by
  intro M st a st' h hn hr next Q K
  simp only [runOp] at hr
  obtain ⟨kx, tx⟩ := rd_trep h hx
  obtain ⟨ky, ty⟩ := rd_trep h hy
  split at hr
  · rename_i k p k' q hp hq
    rw [hp] at tx
    rw [hq] at ty
    split at hr
    · rename_i hk
      subst hk
      have hrun : (execOp a.eval o).run P M.w = .ok (.value (.int k (if mx then (if q > p then q else p) else (if q < p then q else p)))) M.w := by
        simp only [execOp, ho, Sem.run_bind, run_resolve_builtin, Result.andThen_ok, invoke]
        rw [show (#[x, y].map a.eval) = #[.int k p, .int k q] by simp [tx.int, ty.int]]
        cases mx <;> simp [builtin, Builtin.max_, Builtin.min_, Builtin.max2, Builtin.min2]
      rw [hrun]
      exact value_pure h hd (rep_trep rfl (by simp [RepV, Rep])) hr rfl K
    · simp at hr
  · simp at hr

theorem give_sound (h : FR M slots n st a) {o : Operand} {r : Ref} (hc : chkRef slots o r = true) {x : AV} {st' : St} (hg : give st r = some (x, st')) :
    ∃ M', M'.w = M.w ∧ Evo M M' ∧ FR M' slots n st' a ∧ Good x ∧ Has M' (.r 0) x (a.eval o) := by
  obtain ⟨kt, ht⟩ := rd_trep h hc
  unfold give at hg
  split at hg
  · rename_i m s xs t hl
    simp only [Option.some.injEq, Prod.mk.injEq] at hg
    obtain ⟨rfl, rfl⟩ := hg
    obtain ⟨rfl, hns⟩ := chkRef_t hc
    exact ⟨M.ren (Key.free t), rfl, M.ren_evo _, tmp_free h hns, .inr ⟨_, _, _, rfl⟩, tmp_own h hns (by simpa [rd] using hl)⟩
  · rename_i s hl
    simp only [Option.some.injEq, Prod.mk.injEq] at hg
    obtain ⟨rfl, rfl⟩ := hg
    rw [hl] at ht
    exact ⟨M, rfl, .refl M, h, .inr ⟨_, _, _, rfl⟩, full_own (show RepV M.S M.G M.w (.sl .full s []) _ from ht)⟩
  · rename_i j off vo m s xs hl
    rw [hl] at ht
    simp only [TRep] at ht
    obtain ⟨ys, v0, hO, hw⟩ := ht
    split at hg
    · rename_i hvo
      subst hvo
      split at hg
      · rename_i hlen
        split at hg
        · rename_i st1 hdis
          simp only [Option.some.injEq, Prod.mk.injEq] at hg
          obtain ⟨rfl, rfl⟩ := hg
          rw [ownerLen_of hO] at hlen
          obtain ⟨rfl, hA0⟩ := hw.whole (h.owner_arr hO) hlen
          obtain ⟨hfr, _, _⟩ := disown_sound h hO hdis
          refine ⟨M.ren (Key.freeV j off), rfl, M.ren_evo _, hfr, .inr ⟨_, _, _, rfl⟩, ?_⟩
          have := hA0.ren (f := Key.freeV j off)
          have e : Key.freeV j off (.v j off) = .r 0 := by simp [Key.freeV]
          rw [e] at this
          exact this
        · simp at hg
      · simp at hg
    · simp at hg
  · simp at hg

/-- A call of one argument, which is given. -/
theorem fits_callo {o : Oper} {f : FuncId} {x : Operand} {ts : Array TypeId} (ho : o.op = .call { callee := .value (.func f), args := #[x], argTypes := ts }) (hf : FnOk P CS f) {d : Dst} {r : Ref}
    (hd : chkDstO slots n o.dst d = true) (hx : chkRef slots x r = true) : OpFits P CS RP slots n o (.callo d f r) := by
  intro M st a st' h hn hr next Q K
  simp only [runOp] at hr
  split at hr
  · rename_i v st1 hp
    split at hr
    · rename_i r' store' hcs
      obtain ⟨M1, w1, e1, f1, g1, h1⟩ := give_sound h hx hp
      have hA : ArgsRep M1 [v] [a.eval x] := ⟨rfl, fun j y hj => by
        cases j with
        | zero =>
          simp only [List.getElem?_cons_zero, Option.some.injEq] at hj
          subst hj
          exact ⟨g1, _, rfl, h1⟩
        | succ j => simp at hj⟩
      refine call_sound hf e1 f1 hA hcs hr hd K fun ⟨fn, q1, q2, q3⟩ => ?_
      rw [w1]
      simp only [execOp, ho, Sem.run_bind, resolve, Deferred.ofValue, Sem.run_pure, Result.andThen_ok, invoke]
      rw [show a.eval (.func f) = .func (.func f) #[] #[] from rfl]
      simp only [Sem.run_pure, Result.andThen_ok]
      rw [callFunc_run q1 q2 q3]
      congr 2
      apply Array.ext'
      simp
    · simp at hr
  · simp at hr

/-- A function value over a box that stays from now on. -/
theorem fits_mkq {o : Oper} {f : FuncId} {x : Nat} (ho : o.op = .makeFunc (.func f) #[] #[.tmp x]) {i : Nat} (hi : slots[i]? = some x) {d : Dst} (hd : chkDstO slots n o.dst d = true) : OpFits P CS RP slots n o (.mkq d f i) := by
  intro M st a st' h hn hr next Q K
  simp only [runOp] at hr
  have core : ∀ {c : AV} {s : Nat} {xs : List AV}, st.vars[i]? = some (.lbox [c]) → (∀ key v, Has M key c v → RepV M.S M.G M.w (.sl .none s xs) v) → put (setV st i .undef) d (.seq f s xs) = some st' → o.upon P a next Q ((execOp a.eval o).run P M.w) := by
    intro c s xs hv hc hp
    have hb := h.vars i x _ hi hv
    simp only [VRep, LBox] at hb
    obtain ⟨b, e1, e2, e3, cc, et, fr, e4, e5, e6, e7⟩ := hb
    obtain ⟨u, h1, h2, h3⟩ := e7 0 c rfl
    have hcell : cellAt M.w b 0 = some u := by simp [cellAt, World.cell?, e4, h1]
    have hev : Evo M (M.stay fun b' j => b' = b ∧ j = 0) := Mem.stay_evo (by rintro b' j ⟨rfl, _⟩; simp [e2])
    have hwf : (M.stay fun b' j => b' = b ∧ j = 0).Wf := h.wf.stay (by rintro b' j ⟨rfl, rfl⟩; simp [hcell])
    have hfr : FR (M.stay fun b' j => b' = b ∧ j = 0) slots n (setV st i .undef) a := by
      refine h.setVar hev.grow hwf (fun _ _ h => h) hi (fun b' k hb' hk _ => ⟨rfl, rfl, fun j hj => ?_⟩) (v := a.tmps.getD x undef) (by simp [VRep, Has, RepV]) h.size h.defers rfl (fun _ _ => rfl)
      rcases hj with hj | ⟨rfl, _⟩
      · exact hj
      · rw [e2] at hb'
        simp only [Option.some.injEq] at hb'
        subst hb'
        exact absurd rfl hk
    have hrun : (execOp a.eval o).run P M.w = .ok (.value (.func (.func f) #[] #[.pointer (some ⟨b, 0, none⟩)])) M.w := by
      simp [execOp, ho, Instr.makeFunc, Act.eval, e1]
    rw [hrun]
    have hu := RepV.mono hev.grow (hc _ _ h3)
    refine value_ok (av := .seq f s xs) hfr hev hd (rep_trep rfl ?_) hp rfl K
    simp only [RepV, Rep] at hu ⊢
    refine ⟨b, u, rfl, .inr ⟨rfl, rfl⟩, hcell, ?_⟩
    simpa using hu
  split at hr
  · rename_i s xs hv
    exact core hv (fun key v hh => hh) hr
  · rename_i s xs hv
    exact core hv (fun key v hh => own_none hh) hr
  · simp at hr

/-- A slice that has elements is not nil. -/
theorem fits_niq {o : Oper} {T T' e : TypeId} {neg : Bool} {x : Operand} (ho : o.op = .binOp (if neg then .neq else .eql) T x (.const (.slice none 0 0)) T') (hu : P.underlying T = some (.slice e)) {d : Dst} {rx : Ref}
    (hd : chkDstO slots n o.dst d = true) (hx : chkRef slots x rx = true) : OpFits P CS RP slots n o (.niq d neg rx) := by
  intro M st a st' h hn hr next Q K
  simp only [runOp] at hr
  obtain ⟨kx, tx⟩ := rd_trep h hx
  split at hr
  · rename_i ow s y xs hl
    rw [hl] at tx
    obtain ⟨A, cap, hv, hc, hnil⟩ := (sl_content h tx).val
    have hA : ∃ q, A = some q := by
      cases A with
      | none => have := hnil rfl; subst this; simp at hc
      | some q => exact ⟨q, rfl⟩
    obtain ⟨q, rfl⟩ := hA
    have he : (Op.equal T (.slice (some q) (y :: xs).length cap) (.slice none 0 0)).run P M.w = .ok false M.w := by
      unfold Op.equal
      show (Op.equalIn (Op.maxDepth) T _ _).run P M.w = _
      unfold Op.maxDepth Op.equalIn
      rw [Sem.run_bind, run_underlying hu]
      rfl
    have hrun : (execOp a.eval o).run P M.w = .ok (.value (.bool neg)) M.w := by
      have hq : a.eval (.const (.slice none 0 0)) = .slice none 0 0 := rfl
      rw [List.length_cons] at he
      cases neg <;> simp [execOp, ho, hv, hq, eqGuard, binOp, he]
    rw [hrun]
    exact value_pure h hd (rep_trep rfl (by simp [RepV, Rep])) hr rfl K
  · simp at hr

end
end Go.VS
