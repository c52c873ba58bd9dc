/- Operations: what the model does is what the interpreter tells. The simple ones. -/
import Derived.Test.YtpebcbnkalkikaaVsRead
import Derived.Laws.Sem
import Derived.Laws.Cells
import Derived.Laws.Entries
import Derived.Laws.IdiomCopy
set_option linter.unusedVariables false
namespace Go.VS

def chkDstO (slots : List Nat) (n : Nat) : Option Tmp → Dst → Bool
  | some x, d => chkDst slots n x d
  | none, .n => true
  | none, _ => false

def OpFits (P : Program) (CS : CallSem) (RP : FuncId → Option (List AV → Option AV)) (slots : List Nat) (n : Nat) (o : Oper) (op : AOp) : Prop :=
  ∀ M st a st', FR M slots n st a → NoR M → runOp CS RP st op = some st' → ∀ (next : Act → World → Prop) (Q : Exit → Act → World → Prop),
    (∀ M' a', FR M' slots n st' a' → NoR M' → Evo M M' → next a' M'.w) → o.upon P a next Q ((execOp a.eval o).run P M.w)

section
variable {P : Program} {CS : CallSem} {RP : FuncId → Option (List AV → Option AV)} {slots : List Nat} {n : Nat}

theorem value_ok {M M1 : Mem} {st1 st' : St} {a : Act} {o : Oper} {d : Dst} {v : Value} {av : AV} {next : Act → World → Prop} {Q : Exit → Act → World → Prop} {w1 : World}
    (h1 : FR M1 slots n st1 a) (e : Evo M M1) (hd : chkDstO slots n o.dst d = true) (ht : TRep M1 st1.vars st1.store (vvOf slots n a) Key.r av v)
    (hp : put st1 d av = some st') (hw : w1 = M1.w) (K : ∀ M' a', FR M' slots n st' a' → NoR M' → Evo M M' → next a' M'.w) : o.upon P a next Q (.ok (.value v) w1) := by
  subst hw
  rw [Oper.upon_value]
  cases ho : o.dst with
  | some x =>
    rw [ho] at hd
    obtain ⟨M', e1, e2, e3, e4⟩ := put_sound h1 hd ht hp
    rw [← e1]
    exact K M' _ e4 e3 (e.trans e2)
  | none =>
    rw [ho] at hd
    cases d with
    | n =>
      simp only [put, Option.some.injEq] at hp
      subst hp
      have hev := M1.rekey_evo (Key.t n)
      exact K (M1.rekey (Key.t n)) a (h1.evolve hev.grow (h1.wf.rekey _) (fun _ _ h => h) (fun b k hb hk => Mem.rekey_pres hb hk)) (Mem.rekey_noR (by simp)) (e.trans hev)
    | _ => simp [chkDstO] at hd

theorem value_pure {M : Mem} {st st' : St} {a : Act} {o : Oper} {d : Dst} {v : Value} {av : AV} {next : Act → World → Prop} {Q : Exit → Act → World → Prop} {w : World}
    (h : FR M slots n st a) (hd : chkDstO slots n o.dst d = true) (ht : TRep M st.vars st.store (vvOf slots n a) Key.r av v)
    (hp : put st d av = some st') (hw : w = M.w) (K : ∀ M' a', FR M' slots n st' a' → NoR M' → Evo M M' → next a' M'.w) : o.upon P a next Q (.ok (.value v) w) :=
  value_ok h (.refl M) hd ht hp hw K

/-- A scalar: the same in every memory. -/
theorem rep_sc {M : Mem} {vars : List AV} {store : List Obj} {vv : Nat → Value} {kt : Nat → Key} {av : AV} {v : Value} (hp : plain av = true) (h : RepV M.S M.G M.w av v) :
    TRep M vars store vv kt av v := rep_trep hp h

section scalars
variable {M : Mem} {vars : List AV} {store : List Obj} {vv : Nat → Value} {kt : Nat → Key} {v : Value}
theorem TRep.bool {b : Bool} (h : TRep M vars store vv kt (.bool b) v) : v = .bool b := by simpa [TRep, Has, RepV, Rep] using h
theorem TRep.int {k : IntKind} {i : Int} (h : TRep M vars store vv kt (.int k i) v) : v = .int k i := by simpa [TRep, Has, RepV, Rep] using h
theorem TRep.str {l : List UInt8} (h : TRep M vars store vv kt (.str l) v) : v = .string ⟨l.toArray⟩ := by simpa [TRep, Has, RepV, Rep] using h
theorem TRep.flt {k : FloatKind} {b : Nat} (h : TRep M vars store vv kt (.flt k b) v) : v = .float k b := by simpa [TRep, Has, RepV, Rep] using h
theorem TRep.cpx {k : FloatKind} {a b : Nat} (h : TRep M vars store vv kt (.cpx k a b) v) : v = .complex k a b := by simpa [TRep, Has, RepV, Rep] using h
end scalars

theorem ByteArray_toList (l : List UInt8) : (ByteArray.mk l.toArray).toList = l := by
  have key : ∀ (k : Nat) (i : Nat) (acc : List UInt8), l.length - i = k → i ≤ l.length → ByteArray.toList.loop (ByteArray.mk l.toArray) i acc = acc.reverse ++ l.drop i := by
    intro k
    induction k with
    | zero =>
      intro i acc h hi
      have : i = l.length := by omega
      subst this
      unfold ByteArray.toList.loop
      simp [ByteArray.size]
    | succ k ih =>
      intro i acc h hi
      have hlt : i < l.length := by omega
      unfold ByteArray.toList.loop
      have hs : i < (ByteArray.mk l.toArray).size := by simpa [ByteArray.size] using hlt
      rw [if_pos hs, ih (i + 1) _ (by omega) (by omega)]
      rw [List.drop_eq_getElem_cons hlt]
      simp [ByteArray.get!, hlt]
  simpa [ByteArray.toList] using key l.length 0 [] (by simp) (by simp)

theorem strBin_run {op : BinOp} {x y : List UInt8} {r : AV} (h : strBin op x y = some r) (w : World) :
    ∃ v, (Op.stringOp op ⟨x.toArray⟩ ⟨y.toArray⟩).run P w = .ok v w ∧ plain r = true ∧ ∀ S G w', RepV S G w' r v := by
  unfold strBin at h
  unfold Op.stringOp
  simp only [ByteArray_toList]
  split at h
  · split at h
    · rename_i hl
      simp only [Option.some.injEq] at h
      subst h
      refine ⟨.string (⟨x.toArray⟩ ++ ⟨y.toArray⟩), ?_, rfl, ?_⟩
      · rw [if_neg]
        · rfl
        · have hm : IntKind.i64.max = 9223372036854775807 := by decide
          rw [hm]
          simp [ByteArray.size]
          omega
      · intro S G w'
        simp only [RepV, Rep, List.cons.injEq, Value.string.injEq, and_true]
        apply ByteArray.ext
        simp
    · simp at h
  all_goals first
    | (simp only [Option.some.injEq] at h; subst h; exact ⟨_, rfl, rfl, fun S G w' => by simp [RepV, Rep]⟩)
    | simp at h

theorem intBin_run {op : BinOp} {k : IntKind} {x y : Int} {r : AV} (h : intBin op k x y = some r) (hs : isShift op = false) (T : TypeId) (w : World) :
    ∃ v, (binOp op T (.int k x) (.int k y)).run P w = .ok v w ∧ plain r = true ∧ ∀ S G w', RepV S G w' r v := by
  cases op <;> simp only [intBin, isShift, Bool.true_eq_false, reduceCtorEq] at h hs
  case quo =>
    split at h
    · simp at h
    · rename_i hy
      simp only [Option.some.injEq] at h; subst h
      exact ⟨.int k (k.wrap (x.tdiv y)), by simp [binOp, Op.intDiv, hy], rfl, fun S G w' => by simp [RepV, Rep]⟩
  case rem =>
    split at h
    · simp at h
    · rename_i hy
      simp only [Option.some.injEq] at h; subst h
      exact ⟨.int k (x.tmod y), by simp [binOp, Op.intDiv, hy], rfl, fun S G w' => by simp [RepV, Rep]⟩
  all_goals
    simp only [Option.some.injEq] at h
    subst h
    refine ⟨_, by simp [binOp, Op.intArith, Op.intBits, Op.intCmp]; rfl, rfl, fun S G w' => by simp [RepV, Rep, bitsOp]⟩

theorem binop_run {op : BinOp} {x y r : AV} (h : binop op x y = some r) (T : TypeId) (w : World) {vx vy : Value}
    (hx : ∀ k i, x = .int k i → vx = .int k i) (hx' : ∀ l, x = .str l → vx = .string ⟨l.toArray⟩) (hy : ∀ k i, y = .int k i → vy = .int k i) (hy' : ∀ l, y = .str l → vy = .string ⟨l.toArray⟩) (ox oy : Operand) :
    ∃ v, (do eqGuard op T ox oy vx vy; binOp op T vx vy : Sem Value).run P w = .ok v w ∧ plain r = true ∧ ∀ S G w', RepV S G w' r v := by
  unfold binop at h
  split at h
  · rename_i k i k' j
    rw [hx _ _ rfl, hy _ _ rfl]
    have hg : (eqGuard op T ox oy (.int k i) (.int k' j)).run P w = .ok () w := by
      unfold eqGuard
      split <;> rfl
    simp only [Sem.run_bind, hg, Result.andThen_ok]
    split at h
    · rename_i hs
      unfold intShift at h
      split at h
      · simp at h
      · rename_i hn
        cases op <;> simp only [isShift, Bool.false_eq_true, reduceCtorEq, Option.some.injEq] at h hs
        all_goals
          subst h
          refine ⟨_, by simp only [binOp, Op.shift, if_neg hn]; rfl, rfl, fun S G w' => by simp [RepV, Rep]⟩
    · rename_i hs
      split at h
      · rename_i hk
        subst hk
        obtain ⟨v, h1, h2, h3⟩ := intBin_run (P := P) h (by simpa using hs) T w
        refine ⟨v, ?_, h2, h3⟩
        exact h1
      · simp at h
  · rename_i l l'
    rw [hx' _ rfl, hy' _ rfl]
    have hg : (eqGuard op T ox oy (.string ⟨l.toArray⟩) (.string ⟨l'.toArray⟩)).run P w = .ok () w := by
      unfold eqGuard
      split <;> rfl
    simp only [Sem.run_bind, hg, Result.andThen_ok]
    obtain ⟨v, h1, h2, h3⟩ := strBin_run (P := P) h w
    refine ⟨v, ?_, h2, h3⟩
    rw [← h1]
    cases op <;> first | rfl | simp [strBin] at h
  · simp at h

theorem unop_run {op : UnOp} {x r : AV} (h : unop op x = some r) (w : World) {vx : Value} (hx : ∀ k i, x = .int k i → vx = .int k i) (hb : ∀ b, x = .bool b → vx = .bool b) :
    ∃ v, (Op.unary op vx).run P w = .ok v w ∧ plain r = true ∧ ∀ S G w', RepV S G w' r v := by
  unfold unop at h
  split at h
  · rw [hb _ rfl]
    split at h
    · simp only [Option.some.injEq] at h; subst h
      exact ⟨_, rfl, rfl, fun S G w' => by simp [RepV, Rep]⟩
    · simp at h
  · rw [hx _ _ rfl]
    split at h
    all_goals first
      | (simp only [Option.some.injEq] at h; subst h; exact ⟨_, rfl, rfl, fun S G w' => by simp [RepV, Rep, bitsOp]⟩)
      | simp at h
  · simp at h

end
end Go.VS
