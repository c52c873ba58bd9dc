/- Operations: a string's bytes. -/
import Derived.Test.YtpebcbnkalkikaaVsFun
set_option linter.unusedVariables false
namespace Go.VS

section
variable {P : Program} {CS : CallSem} {RP : FuncId → Option (List AV → Option AV)} {slots : List Nat} {n : Nat} {M : Mem} {st : St} {a : Act}

theorem bytes_flat (l : List UInt8) : Flat M.S M.G M.w 1 (l.map encByte) (l.map fun b => Value.int .u8 (b.toNat : Int)) := by
  induction l with
  | nil => simp [Flat]
  | cons b l ih =>
    simp only [List.map_cons, Flat]
    exact ⟨[.int .u8 (b.toNat : Int)], _, rfl, rfl, by simp [Value.oneCell'], by simp [encByte, Rep], ih⟩

theorem fits_s2b {o : Oper} {x : Operand} {T T' e : TypeId} (ho : o.op = .convert T T' x) (hu : P.underlying T = some .string) (hu' : P.underlying T' = some (.slice e)) (he : P.underlying e = some (.int .u8)) {d : Dst} {rx : Ref}
    (hd : chkDstO slots n o.dst d = true) (hx : chkRef slots x rx = true) : OpFits P CS RP slots n o (.s2b d rx) := by
  intro M st a st' h hn hr next Q K
  simp only [runOp] at hr
  obtain ⟨kx, tx⟩ := rd_trep h hx
  split at hr
  · rename_i l hl
    rw [hl] at tx
    split at hr
    · rename_i hlim
      have hsz : (ByteArray.mk l.toArray).size = l.length := by simp [ByteArray.size]
      have hr1 := run_bytes_of_string M.w T T' e (ByteArray.mk l.toArray) hu hu' he
      rw [hsz] at hr1
      have hrun : (execOp a.eval o).run P M.w = .ok (.value (.slice (some ⟨M.w.heap.size, 0, none⟩) l.length (grownCap M.w l.length 0 e)))
          (M.w.drew.alloc (.cells (bytesRow ⟨l.toArray⟩ (grownCap M.w l.length 0 e)) e ((bytesRow ⟨l.toArray⟩ (grownCap M.w l.length 0 e)).size, (bytesRow ⟨l.toArray⟩ (grownCap M.w l.length 0 e)).size + 1))) := by
        simp only [execOp, ho, tx.str, Sem.run_bind, hr1, Result.andThen_ok, Sem.run_pure]
      rw [hrun]
      have hp1 := Plus.drewAlloc M.w (.cells (bytesRow ⟨l.toArray⟩ (grownCap M.w l.length 0 e)) e ((bytesRow ⟨l.toArray⟩ (grownCap M.w l.length 0 e)).size, (bytesRow ⟨l.toArray⟩ (grownCap M.w l.length 0 e)).size + 1))
      have hcap := grownCap_ge M.w l.length 0 e
      have hrow : (bytesRow ⟨l.toArray⟩ (grownCap M.w l.length 0 e)).size = grownCap M.w l.length 0 e := by
        simp [bytesRow, hsz]; omega
      have hcell : ∀ (j : Nat) (v : Value), (l.map fun b => Value.int .u8 (b.toNat : Int))[j]? = some v → (bytesRow ⟨l.toArray⟩ (grownCap M.w l.length 0 e))[j]? = some v := by
        intro j v hj
        have hjl : j < l.length := by simpa using (List.getElem?_eq_some_iff.1 hj).1
        rw [bytesRow_at _ _ _ (by simpa using hjl)]
        simpa [hjl] using hj
      cases l with
      | nil =>
        refine value_ok (av := .sl .none 1 []) (alloc_fr h hp1 (.r 0)) (alloc_evo h.wf hp1 (.r 0)) hd ?_ hr rfl K
        refine rep_trep rfl ?_
        simp only [RepV, Rep]
        exact .inr ⟨_, _, _, rfl, by simp, by simp, by simp [Els]⟩
      | cons b l =>
        have hN := new_arr (key := .r 0) (cap := grownCap M.w (b :: l).length 0 e) h.wf hp1 (bytes_flat (b :: l)) hcell (by simpa using hcap) (by rw [hrow]; omega) (fun j hj => by rw [Bool.and_eq_false_iff, decide_eq_false_iff_not]; exact .inl (Nat.not_le.2 hj)) (by simp)
        refine value_ok (av := .sl (.own true) 1 ((b :: l).map encByte)) (alloc_fr h hp1 (.r 0)) (alloc_evo h.wf hp1 (.r 0)) hd ?_ hr rfl K
        rw [List.length_map] at hN
        exact hN
    · simp at hr
  · simp at hr

theorem fits_eqv {o : Oper} {T T' : TypeId} {neg : Bool} {x y : Operand} (ho : o.op = .binOp (if neg then .neq else .eql) T x y T') (hu : P.underlying T = some .bool) {d : Dst} {rx ry : Ref}
    (hd : chkDstO slots n o.dst d = true) (hx : chkRef slots x rx = true) (hy : chkRef slots y ry = true) : OpFits P CS RP slots n o (.eqv d neg rx ry) := by
  intro M st a st' h hn hr next Q K
  simp only [runOp] at hr
  obtain ⟨kx, tx⟩ := rd_trep h hx
  obtain ⟨ky, ty⟩ := rd_trep h hy
  split at hr
  · rename_i p q hp hq
    rw [hp] at tx
    rw [hq] at ty
    have he : (Op.equal T (.bool p) (.bool q)).run P M.w = .ok (p == q) M.w := by
      unfold Op.equal
      show (Op.equalIn (Op.maxDepth) T _ _).run P M.w = _
      unfold Op.maxDepth Op.equalIn
      rw [Sem.run_bind, run_underlying hu]
      rfl
    have hrun : (execOp a.eval o).run P M.w = .ok (.value (.bool (if neg then !(p == q) else p == q))) M.w := by
      cases neg <;> simp [execOp, ho, tx.bool, ty.bool, eqGuard, binOp, he]
    rw [hrun]
    exact value_pure h hd (rep_trep rfl (by simp [RepV, Rep])) hr rfl K
  · simp at hr

theorem fits_mnx {o : Oper} {mx : Bool} {x y : Operand} {ts : Array TypeId} (ho : o.op = .call { callee := .builtin (if mx then .max else .min), args := #[x, y], argTypes := ts }) {d : Dst} {rx ry : Ref}
    (hd : chkDstO slots n o.dst d = true) (hx : chkRef slots x rx = true) (hy : chkRef slots y ry = true) : OpFits P CS RP slots n o (.mnx d mx rx ry) := by
  intro M st a st' h hn hr next Q K
  simp only [runOp] at hr
  obtain ⟨kx, tx⟩ := rd_trep h hx
  obtain ⟨ky, ty⟩ := rd_trep h hy
  split at hr
  · rename_i k p k' q hp hq
    rw [hp] at tx
    rw [hq] at ty
    split at hr
    · rename_i hk
      subst hk
      have hrun : (execOp a.eval o).run P M.w = .ok (.value (.int k (if mx then (if q > p then q else p) else (if q < p then q else p)))) M.w := by
        simp only [execOp, ho, Sem.run_bind, run_resolve_builtin, Result.andThen_ok, invoke]
        rw [show (#[x, y].map a.eval) = #[.int k p, .int k q] by simp [tx.int, ty.int]]
        cases mx <;> simp [builtin, Builtin.max_, Builtin.min_, Builtin.max2, Builtin.min2]
      rw [hrun]
      exact value_pure h hd (rep_trep rfl (by simp [RepV, Rep])) hr rfl K
    · simp at hr
  · simp at hr

theorem give_sound (h : FR M slots n st a) {o : Operand} {r : Ref} (hc : chkRef slots o r = true) {x : AV} {st' : St} (hg : give st r = some (x, st')) :
    ∃ M', M'.w = M.w ∧ Evo M M' ∧ FR M' slots n st' a ∧ Good x ∧ Has M' (.r 0) x (a.eval o) := by
  obtain ⟨kt, ht⟩ := rd_trep h hc
  unfold give at hg
  split at hg
  · rename_i m s xs t hl
    simp only [Option.some.injEq, Prod.mk.injEq] at hg
    obtain ⟨rfl, rfl⟩ := hg
    obtain ⟨rfl, hns⟩ := chkRef_t hc
    exact ⟨M.ren (Key.free t), rfl, M.ren_evo _, tmp_free h hns, .inr ⟨_, _, _, rfl⟩, tmp_own h hns (by simpa [rd] using hl)⟩
  · rename_i s hl
    simp only [Option.some.injEq, Prod.mk.injEq] at hg
    obtain ⟨rfl, rfl⟩ := hg
    rw [hl] at ht
    exact ⟨M, rfl, .refl M, h, .inr ⟨_, _, _, rfl⟩, full_own (show RepV M.S M.G M.w (.sl .full s []) _ from ht)⟩
  · rename_i j off vo m s xs hl
    rw [hl] at ht
    simp only [TRep] at ht
    obtain ⟨ys, v0, hO, hw⟩ := ht
    split at hg
    · rename_i hvo
      subst hvo
      split at hg
      · rename_i hlen
        split at hg
        · rename_i st1 hdis
          simp only [Option.some.injEq, Prod.mk.injEq] at hg
          obtain ⟨rfl, rfl⟩ := hg
          rw [ownerLen_of hO] at hlen
          obtain ⟨rfl, hA0⟩ := hw.whole (h.owner_arr hO) hlen
          obtain ⟨hfr, _, _⟩ := disown_sound h hO hdis
          refine ⟨M.ren (Key.freeV j off), rfl, M.ren_evo _, hfr, .inr ⟨_, _, _, rfl⟩, ?_⟩
          have := hA0.ren (f := Key.freeV j off)
          have e : Key.freeV j off (.v j off) = .r 0 := by simp [Key.freeV]
          rw [e] at this
          exact this
        · simp at hg
      · simp at hg
    · simp at hg
  · simp at hg

/-- A call of one argument, which is given. -/
theorem fits_callo {o : Oper} {f : FuncId} {x : Operand} {ts : Array TypeId} (ho : o.op = .call { callee := .value (.func f), args := #[x], argTypes := ts }) (hf : FnOk P CS f) {d : Dst} {r : Ref}
    (hd : chkDstO slots n o.dst d = true) (hx : chkRef slots x r = true) : OpFits P CS RP slots n o (.callo d f r) := by
  intro M st a st' h hn hr next Q K
  simp only [runOp] at hr
  split at hr
  · rename_i v st1 hp
    split at hr
    · rename_i r' store' hcs
      obtain ⟨M1, w1, e1, f1, g1, h1⟩ := give_sound h hx hp
      have hA : ArgsRep M1 [v] [a.eval x] := ⟨rfl, fun j y hj => by
        cases j with
        | zero =>
          simp only [List.getElem?_cons_zero, Option.some.injEq] at hj
          subst hj
          exact ⟨g1, _, rfl, h1⟩
        | succ j => simp at hj⟩
      refine call_sound hf e1 f1 hA hcs hr hd K fun ⟨fn, q1, q2, q3⟩ => ?_
      rw [w1]
      simp only [execOp, ho, Sem.run_bind, resolve, Deferred.ofValue, Sem.run_pure, Result.andThen_ok, invoke]
      rw [show a.eval (.func f) = .func (.func f) #[] #[] from rfl]
      simp only [Sem.run_pure, Result.andThen_ok]
      rw [callFunc_run q1 q2 q3]
      congr 2
      apply Array.ext'
      simp
    · simp at hr
  · simp at hr

/-- A function value over a box that stays from now on. -/
theorem fits_mkq {o : Oper} {f : FuncId} {x : Nat} (ho : o.op = .makeFunc (.func f) #[] #[.tmp x]) {i : Nat} (hi : slots[i]? = some x) {d : Dst} (hd : chkDstO slots n o.dst d = true) : OpFits P CS RP slots n o (.mkq d f i) := by
  intro M st a st' h hn hr next Q K
  simp only [runOp] at hr
  have core : ∀ {c : AV} {s : Nat} {xs : List AV}, st.vars[i]? = some (.lbox [c]) → (∀ key v, Has M key c v → RepV M.S M.G M.w (.sl .none s xs) v) → put (setV st i .undef) d (.seq f s xs) = some st' → o.upon P a next Q ((execOp a.eval o).run P M.w) := by
    intro c s xs hv hc hp
    have hb := h.vars i x _ hi hv
    simp only [VRep, LBox] at hb
    obtain ⟨b, e1, e2, e3, cc, et, fr, e4, e5, e6, e7⟩ := hb
    obtain ⟨u, h1, h2, h3⟩ := e7 0 c rfl
    have hcell : cellAt M.w b 0 = some u := by simp [cellAt, World.cell?, e4, h1]
    have hev : Evo M (M.stay fun b' j => b' = b ∧ j = 0) := Mem.stay_evo (by rintro b' j ⟨rfl, _⟩; simp [e2])
    have hwf : (M.stay fun b' j => b' = b ∧ j = 0).Wf := h.wf.stay (by rintro b' j ⟨rfl, rfl⟩; simp [hcell])
    have hfr : FR (M.stay fun b' j => b' = b ∧ j = 0) slots n (setV st i .undef) a := by
      refine h.setVar hev.grow hwf (fun _ _ h => h) hi (fun b' k hb' hk _ => ⟨rfl, rfl, fun j hj => ?_⟩) (v := a.tmps.getD x undef) (by simp [VRep, Has, RepV]) h.size h.defers rfl (fun _ _ => rfl)
      rcases hj with hj | ⟨rfl, _⟩
      · exact hj
      · rw [e2] at hb'
        simp only [Option.some.injEq] at hb'
        subst hb'
        exact absurd rfl hk
    have hrun : (execOp a.eval o).run P M.w = .ok (.value (.func (.func f) #[] #[.pointer (some ⟨b, 0, none⟩)])) M.w := by
      simp [execOp, ho, Instr.makeFunc, Act.eval, e1]
    rw [hrun]
    have hu := RepV.mono hev.grow (hc _ _ h3)
    refine value_ok (av := .seq f s xs) hfr hev hd (rep_trep rfl ?_) hp rfl K
    simp only [RepV, Rep] at hu ⊢
    refine ⟨b, u, rfl, .inr ⟨rfl, rfl⟩, hcell, ?_⟩
    simpa using hu
  split at hr
  · rename_i s xs hv
    exact core hv (fun key v hh => hh) hr
  · rename_i s xs hv
    exact core hv (fun key v hh => own_none hh) hr
  · simp at hr

/-- A slice that has elements is not nil. -/
theorem fits_niq {o : Oper} {T T' e : TypeId} {neg : Bool} {x : Operand} (ho : o.op = .binOp (if neg then .neq else .eql) T x (.const (.slice none 0 0)) T') (hu : P.underlying T = some (.slice e)) {d : Dst} {rx : Ref}
    (hd : chkDstO slots n o.dst d = true) (hx : chkRef slots x rx = true) : OpFits P CS RP slots n o (.niq d neg rx) := by
  intro M st a st' h hn hr next Q K
  simp only [runOp] at hr
  obtain ⟨kx, tx⟩ := rd_trep h hx
  split at hr
  · rename_i ow s y xs hl
    rw [hl] at tx
    obtain ⟨A, cap, hv, hc, hnil⟩ := (sl_content h tx).val
    have hA : ∃ q, A = some q := by
      cases A with
      | none => have := hnil rfl; subst this; simp at hc
      | some q => exact ⟨q, rfl⟩
    obtain ⟨q, rfl⟩ := hA
    have he : (Op.equal T (.slice (some q) (y :: xs).length cap) (.slice none 0 0)).run P M.w = .ok false M.w := by
      unfold Op.equal
      show (Op.equalIn (Op.maxDepth) T _ _).run P M.w = _
      unfold Op.maxDepth Op.equalIn
      rw [Sem.run_bind, run_underlying hu]
      rfl
    have hrun : (execOp a.eval o).run P M.w = .ok (.value (.bool neg)) M.w := by
      have hq : a.eval (.const (.slice none 0 0)) = .slice none 0 0 := rfl
      rw [List.length_cons] at he
      cases neg <;> simp [execOp, ho, hv, hq, eqGuard, binOp, he]
    rw [hrun]
    exact value_pure h hd (rep_trep rfl (by simp [RepV, Rep])) hr rfl K
  · simp at hr

end
end Go.VS
