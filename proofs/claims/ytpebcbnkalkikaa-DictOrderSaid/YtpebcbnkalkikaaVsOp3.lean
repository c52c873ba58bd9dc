/- Operations: addresses of elements and fields, loads, slices of slices. -/
import Derived.Test.YtpebcbnkalkikaaVsOp2
set_option linter.unusedVariables false
namespace Go.VS

theorem addr_add (b o k : Nat) : (⟨b, o, none⟩ : Addr).add k = ⟨b, o + k, none⟩ := by
  unfold Addr.add
  split <;> simp_all

def SizeIs (P : Program) (t s : Nat) : Prop := ∃ i, P.info? t = some i ∧ i.size = s

section
variable {P : Program} {CS : CallSem} {RP : FuncId → Option (List AV → Option AV)} {slots : List Nat} {n : Nat} {M : Mem} {st : St} {a : Act}

theorem run_typeInfo' {t : TypeId} {i : TypeInfo} (h : P.info? t = some i) (w : World) : (typeInfo t).run P w = .ok i w := by
  unfold typeInfo
  rw [Sem.run_bind, run_program]
  simp only [Result.andThen_ok, h]
  rfl

theorem run_sizeOf' {t s : Nat} (h : SizeIs P t s) (w : World) : (sizeOf t).run P w = .ok s w := by
  obtain ⟨i, h1, h2⟩ := h
  unfold sizeOf
  rw [Sem.run_bind, run_typeInfo' h1]
  simp [h2]

theorem indexAt_run {T e s : Nat} (hu : P.underlying T = some (.slice e)) (hs : SizeIs P e s) {b o len cap : Nat} {k : IntKind} {i : Int} (h0 : 0 ≤ i) (h1 : i.toNat < len) (w : World) :
    (Instr.indexAt T (.slice (some ⟨b, o, none⟩) len cap) (.int k i)).run P w = .ok (.pointer (some ⟨b, o + i.toNat * s, none⟩)) w := by
  unfold Instr.indexAt
  simp only [asIntOf, Sem.run_bind, Sem.run_pure, Result.andThen_ok, run_underlying hu]
  have : 0 ≤ i ∧ i < (len : Int) := ⟨h0, by omega⟩
  simp only [this, and_self, if_true, Sem.run_bind, run_sizeOf' hs, Result.andThen_ok, Sem.run_pure, addr_add]

theorem fits_iad {o : Oper} {x i : Operand} {T e s : Nat} (ho : o.op = .indexAddr T x i) (hu : P.underlying T = some (.slice e)) (hs : SizeIs P e s) {d : Dst} {rx ri : Ref}
    (hd : chkDstO slots n o.dst d = true) (hx : chkRef slots x rx = true) (hi : chkRef slots i ri = true) : OpFits P CS RP slots n o (.iad d s rx ri) := by
  intro M st a st' h hn hr next Q K
  simp only [runOp] at hr
  obtain ⟨kx, tx⟩ := rd_trep h hx
  obtain ⟨ki, ti⟩ := rd_trep h hi
  split at hr
  · rename_i ow s' xs k j hl hj
    rw [hl] at tx
    rw [hj] at ti
    split at hr
    · rename_i hss
      subst hss
      split at hr
      · rename_i h0
        split at hr
        · rename_i hlt
          have hrun : ∀ {b p cap : Nat}, a.eval x = .slice (some ⟨b, p, none⟩) xs.length cap →
              (execOp a.eval o).run P M.w = .ok (.value (.pointer (some ⟨b, p + j.toNat * s', none⟩))) M.w := by
            intro b p cap hv
            simp only [execOp, ho, ti.int, hv, Sem.run_bind, indexAt_run hu hs h0 hlt, Result.andThen_ok, Sem.run_pure]
          have plainCase : ∀ {M' : Mem} {st1 : St}, Handed M slots n st1 a M' → RepV M'.S M'.G M'.w (.sl .none s' xs) (a.eval x) → put st1 d (.eptr .none s' xs j.toNat 0) = some st' →
              o.upon P a next Q ((execOp a.eval o).run P M.w) := by
            intro M' st1 hk hR hp
            simp only [RepV, Rep, List.cons.injEq, and_true] at hR
            rcases hR with ⟨_, e⟩ | ⟨b, p, cap, hv, hc, hS, hE⟩
            · subst e; simp at hlt
            · rw [hrun hv]
              refine value_ok hk.fr hk.evo hd (rep_trep rfl ?_) hp hk.w.symm K
              simp only [RepV, Rep]
              exact ⟨b, p, by simp, hlt, hS, hE⟩
          have ofRun : ∀ {i off vo : Nat} {m : Bool} {ys : List AV} {v0 : Value}, OwnArr M (.v i off) m s' ys v0 ∨ (∃ id, OwnArr M (.g id off) m s' ys v0) → View s' ys v0 vo xs (a.eval x) →
              ∃ b p C, v0 = .slice (some ⟨b, p, none⟩) ys.length C ∧ vo + xs.length ≤ ys.length ∧ xs = (ys.drop vo).take xs.length ∧
                (execOp a.eval o).run P M.w = .ok (.value (.pointer (some ⟨b, p + (vo + j.toNat) * s' + 0, none⟩))) M.w := by
            intro i off vo m ys v0 hA hw
            rcases hw with ⟨e0, e1, e2⟩ | ⟨e1, _⟩ | ⟨b, p, C, cap, e1, e2, e3, e4, e5, _⟩
            · subst e0 e1
              have hb : ∃ b p cap, v0 = .slice (some ⟨b, p, none⟩) xs.length cap := by
                rcases hA with hA | ⟨_, hA⟩ <;>
                · rcases hA with ⟨e, _⟩ | ⟨_, b, p, cap, hv, _⟩
                  · subst e; simp at hlt
                  · exact ⟨b, p, cap, hv⟩
              obtain ⟨b, p, cap, hv⟩ := hb
              exact ⟨b, p, cap, hv, by omega, by simp, by rw [hrun (e2.trans hv)]; simp⟩
            · subst e1; simp at hlt
            · exact ⟨b, p, C, e1, e2, e3, by rw [hrun e4]; simp [Nat.add_mul, Nat.add_assoc]⟩
          split at hr
          · rename_i i' off vo m
            simp only [TRep] at tx
            obtain ⟨ys, v0, hO, hw⟩ := tx
            obtain ⟨b, p, C, e1, e2, e3, e4⟩ := ofRun (i := i') (off := off) (.inl (h.owner_arr hO)) hw
            rw [e4]
            refine value_pure (av := .eptr (.of i' off vo m) s' xs j.toNat 0) h hd ?_ hr rfl K
            simp only [TRep]
            exact ⟨ys, b, p, C, e1 ▸ hO, e2, e3, hlt, rfl⟩
          · simp at hr
          · rename_i hno1 hno2
            cases rx with
            | t y =>
              simp only [rd] at hl
              simp only [freezeT, hl] at hr
              cases ow with
              | own m =>
                simp only at hr
                obtain ⟨M', k1, r1, p1, _⟩ := pers_sound h hx (x := .sl .none s' xs) (st' := kill st y (.sl .none s' xs)) (by simp [pers, hl])
                exact plainCase k1 r1 hr
              | none => exact plainCase (Handed.refl h) (by simpa [TRep, Has] using tx) hr
              | full => exact plainCase (Handed.refl h) (rep_content_full (by simpa [TRep, Has] using tx)).2 hr
              | of _ _ _ _ => exact absurd rfl (hno1 _ _ _ _)
              | ofg _ _ _ _ => exact absurd rfl (hno2 _ _ _ _)
            | v i' =>
              simp only [freezeT] at hr
              cases ow with
              | own m => exact absurd hl (view_not_own _ _ _ _ _)
              | none => exact plainCase (Handed.refl h) (by simpa [TRep, Has] using tx) hr
              | full => exact plainCase (Handed.refl h) (rep_content_full (by simpa [TRep, Has] using tx)).2 hr
              | of _ _ _ _ => exact absurd rfl (hno1 _ _ _ _)
              | ofg _ _ _ _ => exact absurd rfl (hno2 _ _ _ _)
            | c av =>
              simp only [freezeT] at hr
              cases ow with
              | own m =>
                simp only [rd] at hl
                subst hl
                cases x <;> simp [chkRef, constOk] at hx
              | none => exact plainCase (Handed.refl h) (by simpa [TRep, Has] using tx) hr
              | full => exact plainCase (Handed.refl h) (rep_content_full (by simpa [TRep, Has] using tx)).2 hr
              | of _ _ _ _ => exact absurd rfl (hno1 _ _ _ _)
              | ofg _ _ _ _ => exact absurd rfl (hno2 _ _ _ _)
        · simp at hr
      · simp at hr
    · simp at hr
  · simp at hr

theorem fits_iada {o : Oper} {x i : Operand} {T e s len : Nat} (ho : o.op = .indexAddr T x i) (hu : P.underlying T = some (.array len e)) (hs : SizeIs P e s) {d : Dst} {rx ri : Ref}
    (hd : chkDstO slots n o.dst d = true) (hx : chkRef slots x rx = true) (hi : chkRef slots i ri = true) : OpFits P CS RP slots n o (.iada d len s rx ri) := by
  intro M st a st' h hn hr next Q K
  simp only [runOp] at hr
  obtain ⟨kx, tx⟩ := rd_trep h hx
  obtain ⟨ki, ti⟩ := rd_trep h hi
  split at hr
  · rename_i j off k i' hl hj
    rw [hl] at tx
    rw [hj] at ti
    split at hr
    · rename_i h0
      split at hr
      · rename_i hlt
        simp only [TRep] at tx
        obtain ⟨b, cs, h1, h2, h3⟩ := tx
        have hrun : (execOp a.eval o).run P M.w = .ok (.value (.pointer (some ⟨b, off + i'.toNat * s, none⟩))) M.w := by
          simp only [execOp, ho, ti.int, h3, Sem.run_bind, Instr.indexAt, asIntOf, Instr.sureAddr, Sem.run_pure, Result.andThen_ok, run_underlying hu]
          have : 0 ≤ i' ∧ i' < (len : Int) := ⟨h0, by omega⟩
          simp only [this, and_self, if_true, Sem.run_bind, run_sizeOf' hs, Result.andThen_ok, Sem.run_pure, addr_add]
        rw [hrun]
        refine value_pure (av := .lptr j (off + i'.toNat * s)) h hd ?_ hr rfl K
        simp only [TRep]
        exact ⟨b, cs, h1, h2, rfl⟩
      · simp at hr
    · simp at hr
  · simp at hr

theorem fits_fad {o : Oper} {x : Operand} {T f off : Nat} {fs : Array Field} {fd : Field} (ho : o.op = .fieldAddr T x f) (hu : P.underlying T = some (.struct fs)) (hf : fs[f]? = some fd) (hoff : fd.offset = off)
    (hs : ∃ s, SizeIs P fd.type s ∧ s ≠ 0) {d : Dst} {rx : Ref} (hd : chkDstO slots n o.dst d = true) (hx : chkRef slots x rx = true) : OpFits P CS RP slots n o (.fad d off rx) := by
  intro M st a st' h hn hr next Q K
  simp only [runOp] at hr
  obtain ⟨kx, tx⟩ := rd_trep h hx
  obtain ⟨s, hs, hs0⟩ := hs
  have hrun : ∀ {b p : Nat}, a.eval x = .pointer (some ⟨b, p, none⟩) → (execOp a.eval o).run P M.w = .ok (.value (.pointer (some ⟨b, p + off, none⟩))) M.w := by
    intro b p hv
    simp only [execOp, ho, hv, Sem.run_bind, Instr.fieldAt, run_underlying hu, Result.andThen_ok, hf, Instr.sureAddr, Sem.run_pure, fieldPlace, run_sizeOf' hs]
    rw [if_neg hs0]
    simp [addr_add, hoff]
  split at hr
  · rename_i j o' hl
    rw [hl] at tx
    simp only [TRep] at tx
    obtain ⟨b, cs, h1, h2, h3⟩ := tx
    rw [hrun h3]
    refine value_pure (av := .lptr j (o' + off)) h hd ?_ hr rfl K
    simp only [TRep]
    exact ⟨b, cs, h1, h2, rfl⟩
  · rename_i ow s' xs i o' hl
    rw [hl] at tx
    cases ow with
    | none =>
      simp only [TRep, Has, RepV, Rep, List.cons.injEq, and_true] at tx
      obtain ⟨b, p, h1, h2, h3, h4⟩ := tx
      rw [hrun h1]
      refine value_pure (av := .eptr .none s' xs i (o' + off)) h hd (rep_trep rfl ?_) hr rfl K
      simp only [RepV, Rep]
      exact ⟨b, p, by simp [Nat.add_assoc], h2, h3, h4⟩
    | of j off' vo m =>
      simp only [TRep] at tx
      obtain ⟨ys, b, p, C, h1, h2, h3, h4, h5⟩ := tx
      rw [hrun h5]
      refine value_pure (av := .eptr (.of j off' vo m) s' xs i (o' + off)) h hd ?_ hr rfl K
      simp only [TRep]
      exact ⟨ys, b, p, C, h1, h2, h3, h4, by simp [Nat.add_assoc]⟩
    | ofg j off' vo m =>
      simp only [TRep] at tx
      obtain ⟨ys, b, p, C, h1, h2, h3, h4, h5⟩ := tx
      rw [hrun h5]
      refine value_pure (av := .eptr (.ofg j off' vo m) s' xs i (o' + off)) h hd ?_ hr rfl K
      simp only [TRep]
      exact ⟨ys, b, p, C, h1, h2, h3, h4, by simp [Nat.add_assoc]⟩
    | full => simp [TRep, Has, RepV, Rep] at tx
    | own m => simp [TRep, Has, RepV, Rep] at tx
  · simp at hr

end
end Go.VS
