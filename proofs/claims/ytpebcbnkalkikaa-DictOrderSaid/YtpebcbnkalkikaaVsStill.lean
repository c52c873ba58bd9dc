/- Operations that leave the world as it is. -/
import Derived.Test.YtpebcbnkalkikaaVsCall
import Derived.Orders
set_option linter.unusedVariables false
namespace Go.VS

/-- Where it comes through, it leaves the world as it is. -/
def Keep (P : Program) {α : Type} (s : Sem α) : Prop := ∀ w a w1, s.run P w = .ok a w1 → w1 = w

/-- It never comes through. -/
def Dead (P : Program) {α : Type} (s : Sem α) : Prop := ∀ w a w1, s.run P w ≠ .ok a w1

section
variable {P : Program}

theorem Dead.keep {α : Type} {s : Sem α} (h : Dead P s) : Keep P s := fun w a w1 hr => absurd hr (h w a w1)

theorem andThen_ok_inv {α β : Type} {r : Result α} {f : α → World → Result β} {b : β} {w : World} (h : r.andThen f = .ok b w) : ∃ a w1, r = .ok a w1 ∧ f a w1 = .ok b w := by
  cases r with
  | ok a w1 => exact ⟨a, w1, rfl, h⟩
  | halt x w1 => cases h

theorem keep_bind {α β : Type} {s : Sem α} {f : α → Sem β} (h : Keep P s) (hf : ∀ a, Keep P (f a)) : Keep P (s >>= f) := by
  intro w b w2 hr
  rw [Sem.run_bind] at hr
  obtain ⟨a, w1, h1, h2⟩ := andThen_ok_inv hr
  exact (hf a _ b w2 h2).trans (h w a w1 h1)

theorem dead_bind {α β : Type} {s : Sem α} {f : α → Sem β} (hf : ∀ a, Dead P (f a)) : Dead P (s >>= f) := by
  intro w b w2 hr
  rw [Sem.run_bind] at hr
  obtain ⟨a, w1, h1, h2⟩ := andThen_ok_inv hr
  exact hf a _ _ _ h2

theorem keep_pure {α : Type} (a : α) : Keep P (pure a : Sem α) := by
  intro w b w1 hr
  rw [Sem.run_pure] at hr
  simp only [Result.ok.injEq] at hr
  exact hr.2.symm

theorem dead_halt {α : Type} (h : Halt) : Dead P (.halt h : Sem α) := fun w a w1 hr => by simp [Sem.run] at hr
theorem dead_goPanic {α : Type} (v : Value) : Dead P (goPanic v : Sem α) := dead_halt _
theorem keep_stuck {α : Type} (s : String) : Keep P (stuck s : Sem α) := (dead_halt _).keep
theorem keep_unsupported {α : Type} (s : Unsupported) : Keep P (unsupported s : Sem α) := (dead_halt _).keep

theorem keep_program : Keep P program := by
  intro w b w1 hr
  rw [run_program] at hr
  simp only [Result.ok.injEq] at hr
  exact hr.2.symm

theorem dead_runtimePanic {α : Type} (e : RuntimeError) : Dead P (runtimePanic e : Sem α) := by
  unfold runtimePanic
  refine dead_bind fun p => ?_
  dsimp only
  cases e <;> first | exact dead_goPanic _ | exact dead_bind fun _ => dead_bind fun _ => dead_goPanic _

theorem dead_boundsPanic {α : Type} (k : IntKind) (x y : Int) (c : BoundsCode) : Dead P (boundsPanic k x y c : Sem α) := by
  unfold boundsPanic
  dsimp only
  split <;> exact dead_bind fun _ => dead_runtimePanic _

theorem keep_boundsPanic {α : Type} (k : IntKind) (x y : Int) (c : BoundsCode) : Keep P (boundsPanic k x y c : Sem α) := (dead_boundsPanic k x y c).keep

theorem keep_ite {α : Type} {c : Prop} [Decidable c] {s t : Sem α} (h : Keep P s) (k : Keep P t) : Keep P (if c then s else t) := by
  split <;> assumption

theorem keep_typeInfo (t : TypeId) : Keep P (typeInfo t) := by
  unfold typeInfo
  refine keep_bind keep_program fun p => ?_
  split
  · exact keep_pure _
  · exact keep_stuck _

theorem keep_underlying (t : TypeId) : Keep P (underlying t) := by
  unfold underlying
  refine keep_bind keep_program fun p => ?_
  split
  · exact keep_pure _
  · exact keep_stuck _

theorem keep_sizeOf (t : TypeId) : Keep P (sizeOf t) := keep_bind (keep_typeInfo t) fun _ => keep_pure _

theorem keep_isAgg (t : TypeId) : Keep P (isAgg t) := by
  unfold isAgg
  refine keep_bind (keep_underlying t) fun d => ?_
  split <;> exact keep_pure _

theorem keep_asBool (v : Value) : Keep P (asBool v) := by
  unfold asBool
  split
  · exact keep_pure _
  · exact keep_stuck _

theorem keep_asIntOf (v : Value) : Keep P (asIntOf v) := by
  unfold asIntOf
  split
  · exact keep_pure _
  · exact keep_unsupported _
  · exact keep_stuck _

theorem keep_asAgg (v : Value) : Keep P (asAgg v) := by
  unfold asAgg
  split
  · exact keep_pure _
  · exact keep_stuck _

theorem keep_sureAddr (v : Value) : Keep P (Instr.sureAddr v) := by
  unfold Instr.sureAddr
  split
  · exact keep_pure _
  · exact keep_stuck _

theorem keep_load (a : Addr) : Keep P (load a) := by
  intro w v w1 hr
  unfold load at hr
  simp only [Sem.run] at hr
  split at hr
  · simp only [Result.ok.injEq] at hr
    exact hr.2.symm
  · split at hr
    · simp only [Result.ok.injEq] at hr
      exact hr.2.symm
    · simp at hr

theorem keep_loadCellsFrom (a : Addr) : ∀ (n i : Nat) (acc : Array Value), Keep P (loadCellsFrom a i n acc)
  | 0, i, acc => keep_pure _
  | n + 1, i, acc => by
    unfold loadCellsFrom
    exact keep_bind (keep_load _) fun v => keep_loadCellsFrom a n _ _

theorem keep_loadVar (t : TypeId) (a : Addr) : Keep P (loadVar t a) := by
  unfold loadVar
  refine keep_bind (keep_isAgg t) fun b => ?_
  split
  · exact keep_bind (keep_sizeOf t) fun n => keep_bind (keep_loadCellsFrom a n 0 #[]) fun _ => keep_pure _
  · exact keep_load a

theorem keep_loadAt (t : TypeId) (v : Value) : Keep P (Instr.loadAt t v) := keep_bind (keep_sureAddr v) fun a => keep_loadVar t a

theorem keep_indexAt (t : TypeId) (x i : Value) : Keep P (Instr.indexAt t x i) := by
  unfold Instr.indexAt
  refine keep_bind (keep_asIntOf _) fun (k, i) => ?_
  refine keep_bind (keep_underlying t) fun d => ?_
  have jp : ∀ q : Option Addr × Nat × TypeId, Keep P (match q with
      | (base, len, elem) => do
        let __do_lift ← underlying t
        have tiny : Bool := decide (len ≤ 1) && match __do_lift with | TypeDesc.array len elem => true | x => false
        match base with
          | some a =>
            if 0 ≤ i ∧ i < ↑len then do
              let __do_lift ← sizeOf elem
              pure (Value.pointer (some (a.add (i.toNat * __do_lift))))
            else
              if tiny = true then
                unsupported (Unsupported.noEntry "op/indexAddr.an index out of range at an array of length 0 or 1 (ledger 616)")
              else boundsPanic k i (↑len) BoundsCode.index
          | none => boundsPanic k i 0 BoundsCode.index) := by
    rintro ⟨base, len, elem⟩
    refine keep_bind (keep_underlying t) fun d => ?_
    dsimp only
    cases base with
    | some a =>
      refine keep_ite (keep_bind (keep_sizeOf _) fun _ => keep_pure _) (keep_ite (keep_unsupported _) (keep_boundsPanic _ _ _ _))
    | none => exact keep_boundsPanic _ _ _ _
  dsimp only at jp ⊢
  split
  · exact keep_bind (keep_sureAddr _) fun _ => keep_bind (keep_pure _) jp
  · exact keep_bind (keep_pure _) jp
  · exact keep_bind (keep_stuck _) jp

theorem keep_extract (t : Value) (k : Nat) : Keep P (Instr.extract t k) := by
  unfold Instr.extract
  split
  · split
    · exact keep_pure _
    · exact keep_stuck _
  · exact keep_stuck _

theorem keep_index (t : TypeId) (x i : Value) (hx : ∃ s, x = .string s) : Keep P (Instr.index t x i) := by
  obtain ⟨s, rfl⟩ := hx
  unfold Instr.index
  refine keep_bind (keep_asIntOf _) fun (k, i) => ?_
  refine keep_bind (keep_underlying t) fun d => ?_
  split
  · rename_i h; cases h
  · split
    · exact keep_pure _
    · exact keep_boundsPanic _ _ _ _
  · exact keep_stuck _

end

def OpStill (P : Program) (CS : CallSem) (RP : FuncId → Option (List AV → Option AV)) (slots : List Nat) (n : Nat) (o : Oper) (op : AOp) : Prop :=
  ∀ M st a st', FR M slots n st a → NoR M → runOp CS RP st op = some st' → ∃ v, (execOp a.eval o).run P M.w = .ok (.value v) M.w

section
variable {P : Program} {CS : CallSem} {RP : FuncId → Option (List AV → Option AV)} {slots : List Nat} {n : Nat} {o : Oper} {op : AOp}

theorem OpFits.ok (h : OpFits P CS RP slots n o op) {M : Mem} {st st' : St} {a : Act} (hf : FR M slots n st a) (hn : NoR M) (hr : runOp CS RP st op = some st') :
    o.upon P a (fun _ _ => True) (fun _ _ _ => False) ((execOp a.eval o).run P M.w) := h M st a st' hf hn hr _ _ fun _ _ _ _ _ => trivial

theorem still_of {s : (Operand → Value) → Sem Value} (h : OpFits P CS RP slots n o op) (he : ∀ ρ, execOp ρ o = do pure (.value (← s ρ))) (hk : ∀ (M : Mem) (st st' : St) (a : Act), FR M slots n st a → runOp CS RP st op = some st' → Keep P (s a.eval)) :
    OpStill P CS RP slots n o op := by
  intro M st a st' hf hn hr
  have hu := h.ok hf hn hr
  have hk := hk M st st' a hf hr
  rw [he] at hu ⊢
  rw [Sem.run_bind] at hu ⊢
  cases hs : (s a.eval).run P M.w with
  | ok v w1 =>
    have := hk _ _ _ hs
    subst this
    exact ⟨v, rfl⟩
  | halt x w1 =>
    rw [hs] at hu
    exfalso
    cases x <;> exact hu

theorem still_mv {x : Operand} (ho : o.op = .move x ∨ o.op = .assign x) : OpStill P CS RP slots n o op := by
  intro M st a st' hf hn hr
  refine ⟨a.eval x, ?_⟩
  rcases ho with ho | ho <;> simp [execOp, ho]

theorem still_ld {T : TypeId} {x : Operand} (ho : o.op = .load T x) (h : OpFits P CS RP slots n o op) : OpStill P CS RP slots n o op :=
  still_of (s := fun ρ => Instr.loadAt T (ρ x)) h (fun ρ => by simp only [execOp, ho]) fun _ _ _ _ _ _ => keep_loadAt _ _

theorem still_iad {T : TypeId} {x i : Operand} (ho : o.op = .indexAddr T x i) (h : OpFits P CS RP slots n o op) : OpStill P CS RP slots n o op :=
  still_of (s := fun ρ => Instr.indexAt T (ρ x) (ρ i)) h (fun ρ => by simp only [execOp, ho]) fun _ _ _ _ _ _ => keep_indexAt _ _ _

theorem still_ext {k : Nat} {x : Operand} (ho : o.op = .extract x k) (h : OpFits P CS RP slots n o op) : OpStill P CS RP slots n o op :=
  still_of (s := fun ρ => Instr.extract (ρ x) k) h (fun ρ => by simp only [execOp, ho]) fun _ _ _ _ _ _ => keep_extract _ _

theorem still_pick {c x y : Operand} (ho : o.op = .pick c x y) (h : OpFits P CS RP slots n o op) : OpStill P CS RP slots n o op :=
  still_of (s := fun ρ => do pure (if ← asBool (ρ c) then ρ x else ρ y)) h (fun ρ => by simp only [execOp, ho, bind_assoc, pure_bind]) fun _ _ _ _ _ _ => keep_bind (keep_asBool _) fun _ => keep_pure _

theorem still_bin {bo : BinOp} {T T' : TypeId} {x y : Operand} (ho : o.op = .binOp bo T x y T') {d : Dst} {rx ry : Ref}
    (hx : chkRef slots x rx = true) (hy : chkRef slots y ry = true) : OpStill P CS RP slots n o (.bin d bo rx ry) := by
  intro M st a st' h hn hr
  simp only [runOp] at hr
  split at hr
  · rename_i r hb
    obtain ⟨kx, tx⟩ := rd_trep h hx
    obtain ⟨ky, ty⟩ := rd_trep h hy
    obtain ⟨v, h1, h2, h3⟩ := binop_run (P := P) hb T M.w (vx := a.eval x) (vy := a.eval y) (fun k i e => by rw [e] at tx; exact tx.int) (fun l e => by rw [e] at tx; exact tx.str)
      (fun k i e => by rw [e] at ty; exact ty.int) (fun l e => by rw [e] at ty; exact ty.str) x y
    refine ⟨v, ?_⟩
    simp only [execOp, ho]
    show (((do eqGuard bo T x y (a.eval x) (a.eval y); binOp bo T (a.eval x) (a.eval y) : Sem Value)) >>= fun s => pure (Next.value s)).run P M.w = _
    rw [Sem.run_bind, h1]
    rfl
  · simp at hr

theorem still_un {uo : UnOp} {T : TypeId} {x : Operand} (ho : o.op = .unOp uo T x) {d : Dst} {rx : Ref} (hx : chkRef slots x rx = true) : OpStill P CS RP slots n o (.un d uo rx) := by
  intro M st a st' h hn hr
  simp only [runOp] at hr
  split at hr
  · rename_i r hb
    obtain ⟨kx, tx⟩ := rd_trep h hx
    obtain ⟨v, h1, h2, h3⟩ := unop_run (P := P) hb M.w (vx := a.eval x) (fun k i e => by rw [e] at tx; exact tx.int) (fun b e => by rw [e] at tx; exact tx.bool)
    exact ⟨v, by simp [execOp, ho, h1]⟩
  · simp at hr

theorem still_len {x : Operand} {T : TypeId} {ts : Array TypeId} (ho : o.op = .call { callee := .builtin .len, args := #[x], argTypes := ts }) (hT : ts[0]? = some T) {str : Bool}
    (hu : match str with | true => P.underlying T = some .string | false => ∃ e, P.underlying T = some (.slice e)) {d : Dst} {rx : Ref}
    (hx : chkRef slots x rx = true) : OpStill P CS RP slots n o (.len d str rx) := by
  intro M st a st' h hn hr
  simp only [runOp] at hr
  obtain ⟨kx, tx⟩ := rd_trep h hx
  split at hr
  · rename_i l hl
    rw [hl] at tx
    refine ⟨.int .i64 l.length, ?_⟩
    simp only [execOp, ho, Sem.run_bind, run_resolve_builtin, Result.andThen_ok, invoke, builtin]
    rw [show (#[x].map a.eval) = #[.string ⟨l.toArray⟩] by simp [tx.str], len_str hT hu]
    rfl
  · rename_i ow s xs hl
    rw [hl] at tx
    obtain ⟨a', cap, hv, _⟩ := (sl_content h tx).val
    obtain ⟨e, hu⟩ := hu
    refine ⟨.int .i64 xs.length, ?_⟩
    simp only [execOp, ho, Sem.run_bind, run_resolve_builtin, Result.andThen_ok, invoke, builtin]
    rw [show (#[x].map a.eval) = #[.slice a' xs.length cap] by simp [hv], len_sl hT hu]
    rfl
  · simp at hr

theorem still_cvi {x : Operand} {T T' : TypeId} {k : IntKind} (ho : o.op = .convert T T' x) (hu : ∃ e, P.underlying T = some e) (hu' : P.underlying T' = some (.int k)) {d : Dst} {rx : Ref}
    (hx : chkRef slots x rx = true) : OpStill P CS RP slots n o (.cvi d k rx) := by
  intro M st a st' h hn hr
  simp only [runOp] at hr
  obtain ⟨kx, tx⟩ := rd_trep h hx
  split at hr
  · rename_i j i hl
    rw [hl] at tx
    obtain ⟨e, hu⟩ := hu
    exact ⟨.int k (k.wrap i), by simp [execOp, ho, convert, run_underlying hu, run_underlying hu', tx.int, Conv.intToInt]⟩
  · simp at hr

theorem still_nck {x : Operand} (ho : o.op = .nilCheck x) {d : Dst} {rx : Ref} (hx : chkRef slots x rx = true) : OpStill P CS RP slots n o (.nck d rx) := by
  intro M st a st' h hn hr
  simp only [runOp] at hr
  obtain ⟨kx, tx⟩ := rd_trep h hx
  split at hr
  · rename_i j off hl
    rw [hl] at tx
    simp only [TRep] at tx
    obtain ⟨b, cs, h1, h2, h3⟩ := tx
    exact ⟨a.eval x, by simp [execOp, ho, h3]⟩
  · rename_i id off hl
    rw [hl] at tx
    simp only [TRep, Has, RepV, Rep, List.cons.injEq, and_true] at tx
    obtain ⟨b, h1, h3⟩ := tx
    exact ⟨a.eval x, by simp [execOp, ho, h3]⟩
  · simp at hr

end
end Go.VS
