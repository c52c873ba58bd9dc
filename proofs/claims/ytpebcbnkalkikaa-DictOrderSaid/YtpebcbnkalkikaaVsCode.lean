/- Code: what the interpreter tells of it is what the model does. -/
import Derived.Test.YtpebcbnkalkikaaVsReg
import Derived.Scope
set_option linter.unusedVariables false
namespace Go.VS

section
variable {P : Program} {CS : CallSem} {RP : FuncId → Option (List AV → Option AV)} {slots : List Nat} {n : Nat} {M : Mem} {st : St} {a : Act}

/-! ### ghost steps -/
theorem FR.drop (h : FR M slots n st a) : FR M slots n (drop st) a where
  wf := h.wf
  size := h.size
  defers := h.defers
  len := h.len
  nodup := h.nodup
  lt := h.lt
  vars := h.vars
  tmps x _ := by simp [VS.drop, look, TRep, Has, RepV]
  store := h.store

theorem FR.undefV (h : FR M slots n st a) (i : Nat) : FR M slots n (setV st i .undef) a := by
  rcases Nat.lt_or_ge i slots.length with hl | hl
  · exact h.setVar (Grow.refl _ _ _) h.wf (fun _ _ h => h) (List.getElem?_eq_getElem hl) (fun b k _ _ _ => ⟨rfl, rfl, fun _ h => h⟩) (v := a.tmps.getD slots[i] undef) (by simp [VRep, Has, RepV]) h.size h.defers rfl (fun _ _ => rfl)
  · have hs : setV st i .undef = { st with tmps := unref i st.tmps } := by
      have : st.vars.set i .undef = st.vars := List.set_eq_of_length_le (by rw [h.len]; exact hl)
      simp [setV, this]
    rw [hs]
    refine ⟨h.wf, h.size, h.defers, h.len, h.nodup, h.lt, h.vars, fun x hx => ?_, h.store⟩
    show TRep M st.vars st.store (vvOf slots n a) (Key.t x) (look x (unref i st.tmps)) _
    rw [look_unref]
    have ht := h.tmps x hx
    by_cases hr : refV (look x st.tmps) i
    · exact unr_rep (fun off m s ys v0 ho => ⟨_, h.owner_arr ho⟩) hr ht _ _ _ _
    · rw [unr_same hr]; exact ht

theorem FR.killV : ∀ {st : St}, FR M slots n st a → ∀ (is : List Nat), FR M slots n (VS.killV st is) a
  | _, h, [] => h
  | _, h, i :: is => FR.killV (h.undefV i) is

theorem FR.frz (h : FR M slots n st a) (hn : NoR M) {i : Nat} {m : Bool} {s : Nat} {xs : List AV} (hi : st.vars[i]? = some (.sl (.own m) s xs)) :
    ∃ M', M'.w = M.w ∧ Evo M M' ∧ NoR M' ∧ FR M' slots n (setV st i (.sl (.own false) s xs)) a := by
  have hl : i < slots.length := by
    have := (List.getElem?_eq_some_iff.1 hi).1; rw [h.len] at this; exact this
  have hv := h.vars i slots[i] _ (List.getElem?_eq_getElem hl) hi
  cases m with
  | false =>
    exact ⟨M, rfl, .refl M, hn, h.setVar (Grow.refl _ _ _) h.wf (fun _ _ h => h) (List.getElem?_eq_getElem hl) (fun b k _ _ _ => ⟨rfl, rfl, fun _ h => h⟩) hv h.size h.defers rfl (fun _ _ => rfl)⟩
  | true =>
    obtain ⟨M', e1, e2, e3, e4, e5, e6, e7⟩ := OwnArr.settle h.wf (show OwnArr M (.v i 0) true s xs (a.tmps.getD slots[i] undef) from hv)
    refine ⟨M', e1, e4, fun b k => by rw [e2]; exact hn b k, h.setVar e4.grow e5 (fun id b hb => by rw [← e3]; exact hb) (List.getElem?_eq_getElem hl) (fun b k hb hk _ => ⟨by rw [e2], by rw [e1], fun j hj => e7 b (by
      rw [hb]; intro e; exact hk (by rw [Option.some.inj e]; rfl)) j hj⟩) (v := a.tmps.getD slots[i] undef) e6 h.size h.defers rfl (fun _ _ => rfl)⟩

/-- The world's other parts. -/
theorem FR.world (h : FR M slots n st a) {w' : World} (hw : w'.heap = M.w.heap) (ho : w'.os = M.w.os) (ht : w'.tape = M.w.tape) (hu : w'.output = M.w.output) : FR { M with w := w' } slots n st a ∧ Evo M { M with w := w' } := by
  have hc : ∀ b j, cellAt w' b j = cellAt M.w b j := fun b j => by simp [cellAt, World.cell?, hw]
  have g : Grow M.S M.G M.w M.S M.G w' := ⟨fun _ _ h => h, fun _ _ h => h, fun b j _ => hc b j⟩
  refine ⟨h.evolve (M' := { M with w := w' }) g ⟨fun b j hs => by rw [hc]; exact h.wf.sdom b j hs, fun b k hk => by show b < w'.heap.size; rw [hw]; exact h.wf.odom b k hk, h.wf.gown⟩ (fun _ _ h => h) (fun b k _ _ => ⟨rfl, by show w'.heap[b]? = _; rw [hw], fun _ h => h⟩), ?_⟩
  exact ⟨g, by show _ ≤ w'.heap.size; rw [hw]; exact Nat.le_refl _, ho, ht, hu, fun b _ _ => by show w'.heap[b]? = _; rw [hw], fun _ _ h => h, fun _ _ h => .inl h⟩

/-! ### what fits what -/
variable (P) in
/-- A function keeps to its contract in whatever the calls are told by. -/
def RegT (slots : List Nat) (n : Nat) (ops : Array Oper) (draw : Bool) (al : List AOp) : Prop :=
  ∀ (CS : CallSem) (RP : FuncId → Option (List AV → Option AV)), (∀ f, FnOk P CS f) → OpsFit P CS RP slots n ops al ∧ (draw = true → P.follows .mixedOrders = true ∧ Region.noSelect ops = true ∧ GroupsOk P CS RP slots n ops al 0)

variable (P) (slots) (n) in
inductive CodeT : AC → Code → Prop
  | skip : CodeT .skip .skip
  | frz {i c code} : CodeT c code → CodeT (.frz i c) code
  | ops {dr al id ops draw} : RegT P slots n ops draw al → CodeT (.ops dr al) (.region id ops draw)
  | ite {r x a b ca cb} : chkRef slots x r = true → CodeT a ca → CodeT b cb → CodeT (.ite r a b) (.cond x ca cb)
  | seq {a b ca cb} : CodeT a ca → CodeT b cb → CodeT (.seq a b) (.seq ca cb)
  | block {id c code} : CodeT c code → CodeT (.block id c) (.block id code)
  | loop {ks c code} : CodeT c code → CodeT (.loop ks c) (.loop code)
  | scope {ks c code} : CodeT c code → CodeT (.sc ks c) (.scope code)
  | label {l} : CodeT (.label l) (.label l)
  | goto {l} : CodeT (.goto l) (.goto l)
  | exit {id} : CodeT (.exit id) (.exit id)
  | ret : CodeT .ret .ret

theorem findL_none {c : AC} {code : Code} (h : CodeT P slots n c code) : ∀ {l : Nat}, findL c l = none → findLabel code l = none := by
  induction h with
  | frz h ih => intro l hf; exact ih (by simpa [findL] using hf)
  | @seq a b ca cb h1 h2 ih1 ih2 =>
    intro l hf
    simp only [findL] at hf
    split at hf
    · simp at hf
    · rename_i ha
      simp only [findLabel, ih1 ha, ih2 hf]
  | @label l' =>
    intro l hf
    simp only [findL] at hf
    split at hf
    · simp at hf
    · rename_i hl
      simp [findLabel, hl]
  | _ => intro l hf; simp [findLabel]

theorem findL_some {c : AC} {code : Code} (h : CodeT P slots n c code) : ∀ {l : Nat} {r : AC}, findL c l = some r → ∃ rest, findLabel code l = some rest ∧ CodeT P slots n r rest := by
  induction h with
  | frz h ih => intro l r hf; exact ih (by simpa [findL] using hf)
  | @seq a b ca cb h1 h2 ih1 ih2 =>
    intro l r hf
    simp only [findL] at hf
    split at hf
    · rename_i r' ha
      simp only [Option.some.injEq] at hf
      subst hf
      obtain ⟨rest, e1, e2⟩ := ih1 ha
      exact ⟨.seq rest cb, by simp [findLabel, e1], .seq e2 h2⟩
    · rename_i ha
      obtain ⟨rest, e1, e2⟩ := ih2 hf
      refine ⟨rest, ?_, e2⟩
      simp only [findLabel, findL_none h1 ha, e1]
  | label =>
    intro l r hf
    simp only [findL] at hf
    split at hf
    · simp only [Option.some.injEq] at hf
      rename_i hl
      subst hf hl
      exact ⟨.skip, by simp [findLabel], .skip⟩
    · simp at hf
  | _ => intro l r hf; simp [findL] at hf

/-! ### loops and scopes, from where they stand -/
def LoopIn (P : Program) (c : Code) (Q : Exit → Act → World → Prop) (a : Act) (w : World) : Prop :=
  ∀ (b : Frame) (k : List Item) (cs : List Frame), ∃ e a' w', Q e a' w' ∧ Arrives P (lone (b.at a (.code c :: .inLoop c :: k)) cs w) b k cs e a' w'

theorem wp_of_loopIn {c : Code} {Q : Exit → Act → World → Prop} {w : World} (h : LoopIn P c Q a w) : (Code.loop c).wp P Q a w :=
  fun b k cs => let ⟨e, a', w', q, r⟩ := h b k cs; ⟨e, a', w', q, .of_steps (.one step_loop) r⟩

theorem loopIn_of {c : Code} {Q : Exit → Act → World → Prop} {w : World} (h : c.wp P (Exit.then (LoopIn P c Q) Q) a w) : LoopIn P c Q a w := by
  intro b k cs
  obtain ⟨e, a₁, w₁, hq, harr⟩ := h b (.inLoop c :: k) cs
  cases e with
  | normal =>
    obtain ⟨e₂, a₂, w₂, hq₂, harr₂⟩ := hq b k cs
    exact ⟨e₂, a₂, w₂, hq₂, .of_steps (Steps.trans harr (.one step_inLoop)) harr₂⟩
  | exit id => exact ⟨_, a₁, w₁, hq, .pass (x := .inLoop c) rfl (fun _ _ => .inl (by simp)) harr⟩
  | goto l => exact ⟨_, a₁, w₁, hq, .pass (x := .inLoop c) rfl (fun _ _ => .inl (by simp)) harr⟩
  | ret => exact ⟨_, a₁, w₁, hq, .pass (x := .inLoop c) rfl (fun _ _ => .inl (by simp)) harr⟩
  | panic ch => exact ⟨_, a₁, w₁, hq, .pass (x := .inLoop c) rfl (fun _ _ => .inl (by simp)) harr⟩
  | outgrown => exact ⟨_, a₁, w₁, hq, .pass (x := .inLoop c) rfl (fun _ _ => .inl (by simp)) harr⟩

def ScopeIn (P : Program) (c cur : Code) (Q : Exit → Act → World → Prop) (a : Act) (w : World) : Prop :=
  ∀ (b : Frame) (k : List Item) (cs : List Frame), ∃ e a' w', Q e a' w' ∧ Arrives P (lone (b.at a (.code cur :: .inScope c :: k)) cs w) b k cs e a' w'

theorem wp_of_scopeIn {c : Code} {Q : Exit → Act → World → Prop} {w : World} (h : ScopeIn P c c Q a w) : (Code.scope c).wp P Q a w :=
  fun b k cs => let ⟨e, a', w', q, r⟩ := h b k cs; ⟨e, a', w', q, .of_steps (.one step_scope) r⟩

/-- Gotos that the scope takes. -/
def Exit.inScope (P : Program) (c : Code) (Q : Exit → Act → World → Prop) : Exit → Act → World → Prop
  | .goto l, a, w => match findLabel c l with
    | some rest => ScopeIn P c rest Q a w
    | none => Q (.goto l) a w
  | e, a, w => Q e a w

theorem scopeIn_of {c cur : Code} {Q : Exit → Act → World → Prop} {w : World} (h : cur.wp P (Exit.inScope P c Q) a w) : ScopeIn P c cur Q a w := by
  intro b k cs
  obtain ⟨e, a₁, w₁, hq, harr⟩ := h b (.inScope c :: k) cs
  cases e with
  | normal => exact ⟨.normal, a₁, w₁, hq, Steps.trans harr (.one step_inScope)⟩
  | exit id => exact ⟨.exit id, a₁, w₁, hq, fun k' hk => harr k' (by simp [exitTo, hk])⟩
  | goto l =>
    simp only [Exit.inScope] at hq
    split at hq
    · rename_i rest hf
      obtain ⟨e₂, a₂, w₂, hq₂, harr₂⟩ := hq b k cs
      exact ⟨e₂, a₂, w₂, hq₂, .of_steps (harr _ (by simp [gotoIn, hf])) harr₂⟩
    · rename_i hf
      exact ⟨.goto l, a₁, w₁, hq, fun k' hk => harr k' (by simp [gotoIn, hf, hk])⟩
  | ret => exact ⟨_, a₁, w₁, hq, harr⟩
  | panic ch => exact ⟨_, a₁, w₁, hq, harr⟩
  | outgrown => exact ⟨_, a₁, w₁, hq, harr⟩

/-! ### soundness -/
def Out.toExit : Out → Exit
  | .norm => .normal
  | .exit id => .exit id
  | .goto l => .goto l
  | .ret => .ret

/-- What is known when a piece of code has been left. -/
def Post (slots : List Nat) (n : Nat) (M : Mem) (out : Out) (st' : St) : Exit → Act → World → Prop :=
  fun e a' w' => e = out.toExit ∧ ∃ M', M'.w = w' ∧ FR M' slots n st' a' ∧ NoR M' ∧ Evo M M'

theorem Post.trans {M M' : Mem} {out : Out} {st' : St} (h : Evo M M') : ∀ e a w, Post slots n M' out st' e a w → Post slots n M out st' e a w := by
  rintro e a w ⟨h1, M'', h2, h3, h4, h5⟩
  exact ⟨h1, M'', h2, h3, h4, h.trans h5⟩

theorem Post.mk {M M' : Mem} {out : Out} {st' : St} {a' : Act} {w' : World} (hw : M'.w = w') (hf : FR M' slots n st' a') (hn : NoR M') (he : Evo M M') : Post slots n M out st' out.toExit a' w' := ⟨rfl, M', hw, hf, hn, he⟩

/-- All that holds of one evaluation. -/
structure Told (P : Program) (slots : List Nat) (n : Nat) (ac : AC) (M : Mem) (a : Act) (out : Out) (st' : St) : Prop where
  code : ∀ code, CodeT P slots n ac code → code.wp P (Post slots n M out st') a M.w
  loop : ∀ ks c, ac = .loop ks c → ∀ code, CodeT P slots n c code → LoopIn P code (Post slots n M out st') a M.w
  scope : ∀ ks c r, ac = .scope ks c r → ∀ code rest, CodeT P slots n c code → CodeT P slots n r rest → ScopeIn P code rest (Post slots n M out st') a M.w

def CSound (P : Program) (C : CodeSem) : Prop :=
  ∀ (slots : List Nat) (n : Nat) (ac : AC) (st : St) (out : Out) (st' : St), C ac st = some (out, st') → ∀ (M : Mem) (a : Act), FR M slots n st a → NoR M → Told P slots n ac M a out st'

theorem stepC_sound {C : CodeSem} (hC : CSound P C) (hCS : ∀ f, FnOk P CS f) : CSound P (stepC CS RP C) := by
  intro slots n ac st out st' hr M a hf hn
  cases ac with
  | skip =>
    simp only [stepC, Option.some.injEq, Prod.mk.injEq] at hr
    obtain ⟨rfl, rfl⟩ := hr
    exact ⟨fun code hc => by cases hc; exact wp_skip (.mk rfl hf hn (.refl M)), by simp, by simp⟩
  | frz i c =>
    simp only [stepC] at hr
    split at hr
    · rename_i m s xs hi
      obtain ⟨M', e1, e2, e3, e4⟩ := hf.frz hn hi
      have := hC slots n c _ out st' hr M' a e4 e3
      refine ⟨fun code hc => ?_, by simp, by simp⟩
      cases hc with
      | frz hc =>
        have := this.code _ hc
        rw [e1] at this
        exact wp_mono this (Post.trans e2)
    · simp at hr
  | ops dr al =>
    simp only [stepC] at hr
    split at hr
    · rename_i st1 h1
      simp only [Option.some.injEq, Prod.mk.injEq] at hr
      obtain ⟨rfl, rfl⟩ := hr
      refine ⟨fun code hc => ?_, by simp, by simp⟩
      cases hc with
      | @ops _ _ id ops draw hT =>
        obtain ⟨hF, hD⟩ := hT CS RP hCS
        have K : ∀ M0 : Mem, Evo M M0 → ∀ M' a', FR M' slots n st1 a' → NoR M' → Evo M0 M' → Post slots n M .norm (if dr = true then drop st1 else st1) .normal a' M'.w := by
          intro M0 e0 M' a' f' n' e'
          refine ⟨rfl, M', rfl, ?_, n', e0.trans e'⟩
          split
          · exact f'.drop
          · exact f'
        cases draw with
        | false =>
          refine wp_region ?_
          have := ops_sound hF al.length 0 M st a st1 (by omega) hf hn (by simpa using h1) (K M (.refl M))
          rw [List.range_eq_range', ← hF.1]
          exact this
        | true =>
          obtain ⟨hm, hs, hG⟩ := hD rfl
          refine wp_region_any hm ?_
          obtain ⟨f0, e0⟩ := hf.world (w' := { M.w with drawn := M.w.drawn + 1 }) rfl rfl rfl rfl
          have := draw_sound hF hs (Q := Post slots n M .norm (if dr = true then drop st1 else st1)) (fun c a w h => by have := h.1; simp [Out.toExit] at this) hG (by simp) _ st a st1 f0 (fun b k => hn b k) (by simpa using h1) (K _ e0)
          rw [upto_zero]
          exact this
    · simp at hr
  | ite c x y =>
    simp only [stepC] at hr
    split at hr
    · rename_i t ht
      refine ⟨fun code hc => ?_, by simp, by simp⟩
      cases hc with
      | @ite _ o _ _ ca cb hc h1 h2 =>
        obtain ⟨kt, hk⟩ := rd_trep hf hc
        rw [ht] at hk
        refine wp_cond (t := t) hk.bool ?_
        cases t with
        | true => exact (hC slots n x _ out st' (by simpa using hr) M a hf.drop hn).code _ h1
        | false => exact (hC slots n y _ out st' (by simpa using hr) M a hf.drop hn).code _ h2
    · simp at hr
  | seq x y =>
    simp only [stepC] at hr
    refine ⟨fun code hc => ?_, by simp, by simp⟩
    cases hc with
    | @seq _ _ ca cb h1 h2 =>
      refine wp_seq ?_
      split at hr
      · rename_i st1 hx
        refine wp_mono ((hC slots n x st _ st1 hx M a hf hn).code _ h1) ?_
        rintro e a1 w1 ⟨rfl, M1, rfl, f1, n1, e1⟩
        exact wp_mono ((hC slots n y st1 out st' hr M1 a1 f1 n1).code _ h2) (Post.trans e1)
      · rename_i hx
        refine wp_mono ((hC slots n x st out st' hr M a hf hn).code _ h1) ?_
        rintro e a1 w1 ⟨rfl, hp⟩
        cases out with
        | norm => exact absurd hr (hx _)
        | _ => exact ⟨rfl, hp⟩
  | block id c =>
    simp only [stepC] at hr
    refine ⟨fun code hc => ?_, by simp, by simp⟩
    cases hc with
    | @block _ _ code hc =>
      refine wp_block ?_
      split at hr
      · rename_i id' st1 hx
        refine wp_mono ((hC slots n c st _ st1 hx M a hf hn).code _ hc) ?_
        rintro e a1 w1 ⟨rfl, hp⟩
        simp only [Out.toExit, Exit.inBlock]
        split at hr
        · rename_i he
          simp only [Option.some.injEq, Prod.mk.injEq] at hr
          obtain ⟨rfl, rfl⟩ := hr
          rw [if_pos he]
          exact ⟨rfl, hp⟩
        · rename_i he
          simp only [Option.some.injEq, Prod.mk.injEq] at hr
          obtain ⟨rfl, rfl⟩ := hr
          rw [if_neg he]
          exact ⟨rfl, hp⟩
      · rename_i hx
        refine wp_mono ((hC slots n c st out st' hr M a hf hn).code _ hc) ?_
        rintro e a1 w1 ⟨rfl, hp⟩
        cases out with
        | exit id' => exact absurd hr (hx _ _)
        | _ => exact ⟨rfl, hp⟩
  | loop ks c =>
    simp only [stepC] at hr
    have key : ∀ code, CodeT P slots n c code → LoopIn P code (Post slots n M out st') a M.w := by
      intro code hc
      refine loopIn_of ?_
      split at hr
      · rename_i st1 hx
        refine wp_mono ((hC slots n c _ _ st1 hx M a (hf.killV ks) hn).code _ hc) ?_
        rintro e a1 w1 ⟨rfl, M1, rfl, f1, n1, e1⟩
        have := (hC slots n _ st1 out st' hr M1 a1 f1 n1).loop ks c rfl code hc
        intro b k cs
        obtain ⟨e, a', w', q, r⟩ := this b k cs
        exact ⟨e, a', w', Post.trans e1 _ _ _ q, r⟩
      · rename_i hx
        refine wp_mono ((hC slots n c _ out st' hr M a (hf.killV ks) hn).code _ hc) ?_
        rintro e a1 w1 ⟨rfl, hp⟩
        cases out with
        | norm => exact absurd hr (hx _)
        | _ => exact ⟨rfl, hp⟩
    refine ⟨fun code hc => ?_, fun ks' c' e => ?_, by simp⟩
    · cases hc with
      | loop hc => exact wp_of_loopIn (key _ hc)
    · simp only [AC.loop.injEq] at e
      obtain ⟨rfl, rfl⟩ := e
      exact key
  | scope ks c cur =>
    simp only [stepC] at hr
    have key : ∀ code rest, CodeT P slots n c code → CodeT P slots n cur rest → ScopeIn P code rest (Post slots n M out st') a M.w := by
      intro code rest hc hrest
      refine scopeIn_of ?_
      split at hr
      · rename_i l st1 hx
        refine wp_mono ((hC slots n cur st _ st1 hx M a hf hn).code _ hrest) ?_
        rintro e a1 w1 ⟨rfl, M1, rfl, f1, n1, e1⟩
        simp only [Out.toExit, Exit.inScope]
        split at hr
        · rename_i r hl
          obtain ⟨rest', hl', hT⟩ := findL_some hc hl
          rw [hl']
          have := (hC slots n _ _ out st' hr M1 a1 (f1.killV ks) n1).scope ks c r rfl code rest' hc hT
          intro b k cs
          obtain ⟨e, a', w', q, r⟩ := this b k cs
          exact ⟨e, a', w', Post.trans e1 _ _ _ q, r⟩
        · rename_i hl
          rw [findL_none hc hl]
          simp only [Option.some.injEq, Prod.mk.injEq] at hr
          obtain ⟨rfl, rfl⟩ := hr
          exact ⟨rfl, M1, rfl, f1, n1, e1⟩
      · rename_i hx
        refine wp_mono ((hC slots n cur st out st' hr M a hf hn).code _ hrest) ?_
        rintro e a1 w1 ⟨rfl, hp⟩
        cases out with
        | goto l => exact absurd hr (hx _ _)
        | _ => exact ⟨rfl, hp⟩
    refine ⟨fun code hc => (by cases hc), by simp, fun ks' c' r' e => ?_⟩
    simp only [AC.scope.injEq] at e
    obtain ⟨rfl, rfl, rfl⟩ := e
    exact key
  | sc ks c =>
    simp only [stepC] at hr
    refine ⟨fun code hc => ?_, by simp, by simp⟩
    cases hc with
    | scope hc => exact wp_of_scopeIn ((hC slots n _ st out st' hr M a hf hn).scope ks c c rfl _ _ hc hc)
  | label l =>
    simp only [stepC, Option.some.injEq, Prod.mk.injEq] at hr
    obtain ⟨rfl, rfl⟩ := hr
    exact ⟨fun code hc => by cases hc; exact wp_label (.mk rfl hf hn (.refl M)), by simp, by simp⟩
  | goto l =>
    simp only [stepC, Option.some.injEq, Prod.mk.injEq] at hr
    obtain ⟨rfl, rfl⟩ := hr
    exact ⟨fun code hc => by cases hc; exact wp_goto (.mk rfl hf hn (.refl M)), by simp, by simp⟩
  | exit id =>
    simp only [stepC, Option.some.injEq, Prod.mk.injEq] at hr
    obtain ⟨rfl, rfl⟩ := hr
    exact ⟨fun code hc => by cases hc; exact wp_exit (.mk rfl hf hn (.refl M)), by simp, by simp⟩
  | ret =>
    simp only [stepC, Option.some.injEq, Prod.mk.injEq] at hr
    obtain ⟨rfl, rfl⟩ := hr
    exact ⟨fun code hc => by cases hc; exact wp_ret (.mk rfl hf hn (.refl M)), by simp, by simp⟩

end
end Go.VS
